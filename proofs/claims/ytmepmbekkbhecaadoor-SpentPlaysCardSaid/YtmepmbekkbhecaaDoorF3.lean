/- A part of the prover's own frame for walking code (see the claim's other texts). -/
import Derived.Test.YtmepmbekkbhecaaDoorF1
import Derived.Test.YtmepmbekkbhecaaDoorF2
set_option linter.unusedVariables false
set_option linter.unusedSimpArgs false
set_option linter.unusedVariables false
set_option linter.unusedSimpArgs false
namespace Go.Sx
open Go.RowKit
def rowE (r:Row):Value×Value:=(sv r, .agg (vals r).toArray)
def bagKV (rs:List Row):KV:=rs.map rowE
def bag (e:TypeId) (m:KV):Slot:=bun [] (.kv m) (fun rs: {rs:List Row//bagKV rs=m/\MOK m/\ ∀r∈rs,r≠ .nil}=>rs.val.map (ss e))
noncomputable def bget (m:KV) (v:Value):List Value:=((mget m v).getD (.agg #[])).cells.toList
structure InBag (m:KV) (v:Value) (l:List Value):Prop where
  at_:(v=sv .nil/\l= [])∨(v≠sv .nil/\mget m v=some (.agg l.toArray))
  ok: ∀e∈m,e.1≠sv .nil
  row: ∃r:Row,v=sv r/\vals r=l
theorem InBag.nil {m:KV} (h: ∀e∈m,e.1≠sv .nil):InBag m (sv .nil) []:=⟨.inl ⟨rfl,rfl⟩,h, .nil,rfl,rfl⟩
theorem InBag.vlen {m:KV} {v:Value} {l:List Value} (h:InBag m v l):vlen v=l.length:=by
  obtain ⟨r,rfl,rfl⟩:=h.row
  exact vlen_sv r
theorem xlenV {P:Program} {t e:TypeId} {z:Value} (h:SlT P t e z) (ty:TypeId) {m:KV} {v:Value} {l:List Value} (hb:InBag m v l):PureRun P (do pure (.value (←Builtin.len_ #[t] ty #[v]))) (.int .i64 ((vlen v:Nat):Int)):=by
  obtain ⟨r,rfl,_⟩:=hb.row
  exact xlen h ty r
theorem xtakeV {P:Program} {t e:TypeId} {z:Value} (h:SlT P t e z) (k:IntKind) (n:Int) {m:KV} {v:Value} {l:List Value} (hb:InBag m v l) (h0:0<=n) (h1:n<=(l.length:Nat)):
    PureRun P (do pure (.value (←Instr.sliceAt t v none (some (.int k n)) none))) (vtake v (Int.toNat n)):=by
  obtain ⟨r,rfl,rfl⟩:=hb.row
  exact xtake h r k n h0 h1
theorem InBag.get {m:KV} {v:Value} {l:List Value} (h:InBag m v l):bget m v=l:=by
  unfold bget
  rcases h.at_ with ⟨rfl,rfl⟩ | ⟨_,q⟩
  · rw [mget_none.2 h.ok];rfl
  · rw [q];simp [Value.cells]
theorem own_perm {a b:List Slot} (h:a.Perm b):Imp a b:= .same (sep_perm h)
theorem sv_nil_ne {r:Row} (h:r≠ .nil):sv r≠sv .nil:=by
  cases r with
  | nil=>exact absurd rfl h
  | mk b vs ex=>intro e;simp [sv] at e
theorem bag_row {m:KV} {rs:List Row} (hm:bagKV rs=m) {v:Value} {l:List Value} (h:mget m v=some (.agg l.toArray)): ∃p r q,rs=p++r::q/\sv r=v/\vals r=l:=by
  subst hm
  have hmem:=mget_mem h
  obtain ⟨r,hr,he⟩:=List.mem_map.1 hmem
  obtain ⟨p,q,rfl⟩:=List.append_of_mem hr
  unfold rowE at he
  injection he with h1 h2
  refine ⟨p,r,q,rfl,h1,?_⟩
  have:=congrArg Value.cells h2
  simpa [Value.cells] using congrArg Array.toList this
theorem perm_front (e:TypeId) (p q:List Row) (r:Row) (l:List Slot):((p++r::q).map (ss e)++l).Perm ((ss e r::l)++(p++q).map (ss e)):=by
  rw [List.map_append,List.map_cons,List.map_append]
  refine List.Perm.trans (l₂:=ss e r::((p.map (ss e)++q.map (ss e))++l)) ?_ ?_
  · rw [List.append_assoc,List.cons_append,List.append_assoc];exact List.perm_middle
  · exact List.Perm.cons _ List.perm_append_comm
theorem bag_read {P : Program} {f : FuncId} {args : Array Value} {e : TypeId} {m : KV} {v : Value} {l : List Value} {Hs : List Slot} {X : Type} {val : X -> Value} {us : X -> List Slot} {Φ : X -> Prop} (en : EnterOK P f) (hr : InBag m v l)
    (h: ∀r,sv r=v->vals r=l->CallT P f args (ss e r::Hs) X val (fun x=>ss e r::us x) Φ):CallT P f args (bag e m::Hs) X val (fun x=>bag e m::us x) Φ:=by
  rcases hr.at_ with ⟨rfl,rfl⟩ | ⟨hv,q⟩
  · have hc:=(h .nil rfl rfl).frame [bag e m]
    refine hc.conv ?_ ?_
    · intro R w ho
      have h1:Own (ofList ([.free]++(Hs++ [bag e m]))) R w:=by
        refine (Imp.same fun p hp=> ?_) R w (Imp.swap [bag e m] Hs R w ho)
        obtain h2:=(sep_free (a:=Hs++ [bag e m])).2 hp
        exact sep_perm (List.perm_append_comm) p h2
      exact h1
    · intro x hx R w ho
      have h1:Own (ofList (us x++ [bag e m])) R w:=Imp.drop _ [_] R w (Imp.swap [_] _ R w ho)
      exact Imp.swap (us x) [bag e m] R w h1
  · refine ⟨en,fun R w ho=> ?_⟩
    · obtain ⟨⟨rs,hm,hM,hn⟩,ho1⟩:=bun_open ho
      obtain ⟨p,r,q',rfl,h1,h2⟩:=bag_row hm q
      have hc:=(h r h1 h2).frame ((p++q').map (ss e))
      refine (hc.calls R w (own_perm (perm_front e p q' r Hs) R w ho1)).mono ?_
      rintro e' w' ⟨x,hx,he,ho3,hext⟩
      refine ⟨x,hx,he,?_,hext⟩
      have ho4:=own_perm (perm_front e p q' r (us x)).symm R w' ho3
      exact bun_shut (F:=fun rs: {rs:List Row//bagKV rs=m/\MOK m/\ ∀r∈rs,r≠ .nil}=>rs.val.map (ss e)) ⟨_,hm,hM,hn⟩ (us x) R w' ho4
theorem ofList_get {l:List Slot} {i:Nat} {s:Slot} (h:l[i]? =some s):ofList l i=s:=by unfold ofList;rw [List.getD_eq_getElem?_getD,h];rfl
theorem own_rows_ne {e:TypeId} {rs:List Row} {y:Row} {l:List Slot} {R:HP} {w:World} (ho:Own (ofList (rs.map (ss e)++ss e y::l)) R w) (hy:y≠ .nil): ∀r∈rs,sv r≠sv y:=by
  intro r hr hs
  cases y with
  | nil=>exact hy rfl
  | mk b vs ex =>
    cases r with
    | nil=>simp [sv] at hs
    | mk b2 vs2 ex2 =>
      obtain ⟨i,hi,hri⟩:=List.mem_iff_getElem.1 hr
      have h1:ofList (rs.map (ss e)++ss e (.mk b vs ex)::l) i=ss e (.mk b2 vs2 ex2):=ofList_get (by rw [List.getElem?_append_left (by simpa using hi),List.getElem?_map,List.getElem?_eq_getElem hi,hri];rfl)
      have h2:ofList (rs.map (ss e)++ss e (.mk b vs ex)::l) rs.length=ss e (.mk b vs ex):=ofList_get (by rw [List.getElem?_append_right (by simp)];simp)
      refine own_ne2 (s:= []) ho (by omega) h1 h2 ?_
      simp only [sv,Value.slice.injEq,Option.some.injEq,Addr.mk.injEq] at hs
      exact hs.1.1
theorem InBag.add {m:KV} {v:Value} {l:List Value} (h:InBag m v l) {y:Row} (hy:y≠ .nil) (hn:mget m (sv y)=none):InBag (m++ [rowE y]) v l:=by
  have ok: ∀e∈m++ [rowE y],e.1≠sv .nil:=fun e he=>by
    rcases List.mem_append.1 he with q | q
    · exact h.ok e q
    · simp at q;subst q;exact sv_nil_ne hy
  refine ⟨?_,ok,h.row⟩
  rcases h.at_ with q | ⟨q1,q2⟩
  · exact .inl q
  · exact .inr ⟨q1,by rw [mget_append,q2];rfl⟩
theorem InBag.new {m:KV} (ok: ∀e∈m,e.1≠sv .nil) {y:Row} (hy:y≠ .nil) (hn:mget m (sv y)=none):InBag (m++ [rowE y]) (sv y) (vals y):=by
  refine ⟨.inr ⟨sv_nil_ne hy,?_⟩,fun e he=> ?_,y,rfl,rfl⟩
  · rw [mget_append,hn];show mget [rowE y] (sv y)=_;rw [mget_cons,if_pos (show (rowE y).1=sv y from rfl)];rfl
  · rcases List.mem_append.1 he with q | q
    · exact ok e q
    · simp at q;subst q;exact sv_nil_ne hy
theorem bag_shut1 {e:TypeId} {m:KV} {y:Row} {l:List Slot} {R:HP} {w:World} (ho:Own (ofList (bag e m::ss e y::l)) R w): ∃m',Own (ofList (bag e m' ::l)) R w/\(∀v k,InBag m v k->InBag m' v k)/\((∀e∈m,e.1≠sv .nil)->InBag m' (sv y) (vals y)):=by
  by_cases hy:y= .nil
  · subst hy
    refine ⟨m,?_,fun _ _ h=>h,fun ok=>InBag.nil ok⟩
    have h1:=Imp.swap [bag e m] (ss e .nil::l) R w ho
    have h2:Own (ofList (l++ [bag e m])) R w:=Imp.drop _ [_] R w (Imp.swap [ss e .nil] (l++ [bag e m]) R w h1)
    exact Imp.swap l [bag e m] R w h2
  · obtain ⟨⟨rs,hm,hM,hn⟩,ho1⟩:=bun_open ho
    have hne:=own_rows_ne ho1 hy
    have hnone:mget m (sv y)=none:=mget_none.2 fun q hq=>by
      rw [←hm] at hq
      obtain ⟨r,hr,rfl⟩:=List.mem_map.1 hq
      exact hne r hr
    refine ⟨m++ [rowE y],?_,fun v k h=>h.add hy hnone,fun ok=>InBag.new ok hy hnone⟩
    have hp:(rs.map (ss e)++ss e y::l).Perm ((rs++ [y]).map (ss e)++l):=by simp
    refine bun_shut (F:=fun rs: {rs:List Row//bagKV rs=m++ [rowE y]/\MOK (m++ [rowE y])/\ ∀r∈rs,r≠ .nil}=>rs.val.map (ss e)) ⟨rs++ [y],?_,?_,?_⟩ l R w (own_perm hp R w ho1)
    · rw [←hm];unfold bagKV;simp
    · have h3:=hM.set (sv y) (.agg (vals y).toArray)
      unfold mset at h3
      rw [if_neg (by rw [hnone];simp)] at h3
      exact h3
    · intro r hr
      rcases List.mem_append.1 hr with q | q
      · exact hn r q
      · simp at q;subst q;exact hy
theorem bag_add {P:Program} {f:FuncId} {args:Array Value} {e:TypeId} {m:KV} {v:Value} {l:List Value} {g:Value->Bool->Value} {Ψ:List Value->Prop} {Φ0:Prop} (en:EnterOK P f) (hr:InBag m v l)
    (h: ∀r,sv r=v->vals r=l->CallT P f args [ss e r] (Bool×Row) (fun x=>g (bif x.1 then sv x.2 else v) x.1) (fun x=> [ss e r,ss e x.2]) (fun x=>(x.1=true->Ψ (vals x.2))/\(x.1=false->Φ0))):
    CallT P f args [bag e m] (KV×Value×Bool) (fun x=>g x.2.1 x.2.2) (fun x=> [bag e x.1]) (fun x=> ∃k,(x.2.2=true->Ψ k)/\(x.2.2=false->Φ0/\k=l)/\InBag x.1 x.2.1 k/\ ∀v' k',InBag m v' k' ->InBag x.1 v' k'):=by
  have h1:=bag_read (us:=fun x:Bool×Row=> [ss e x.2]) en hr h
  refine h1.imp (fun R w ho=>ho) ?_
  rintro ⟨b,y⟩ R w ⟨hx1,hx2⟩ ho
  cases b with
  | true =>
    obtain ⟨m',h3,h4,h5⟩:=bag_shut1 (l:= []) ho
    exact ⟨(m',sv y,true),⟨vals y,fun _=>hx1 rfl,(fun q=>by cases q),h5 hr.ok,h4⟩,rfl,h3⟩
  | false=>exact ⟨(m,v,false),⟨l,(fun q=>by cases q),fun _=>⟨hx2 rfl,rfl⟩,hr,fun _ _ q=>q⟩,rfl,Imp.drop [_] [_] R w ho⟩
theorem bag_nil {e:TypeId} {l:List Slot}:Imp l (bag e []::l):=fun R w ho=>bun_shut (F:=fun rs: {rs:List Row//bagKV rs= []/\MOK []/\ ∀r∈rs,r≠ .nil}=>rs.val.map (ss e)) ⟨[],rfl,MOK.nil,fun _ h=>by cases h⟩ l R w ho
end Go.Sx
set_option linter.unusedVariables false
set_option linter.unusedSimpArgs false
namespace Go.Sx
open Go.RowKit
noncomputable def bl (m:KV) (v:Value):List Int:=(bget m v).map ci
theorem uvs_ci (l:List Int):(uvs l).map ci=l:=by
  unfold uvs;rw [List.map_map];conv=>rhs;rw [←List.map_id l]
  exact List.map_congr_left fun x _=>rfl
theorem InBag.bl {m:KV} {v:Value} {l:List Int} (h:InBag m v (uvs l)):bl m v=l:=by unfold Sx.bl;rw [h.get,uvs_ci]
def stP (i:Int) (s:List Int×Bool) (x:Int):List Int×Bool:=if i<x/\s.2=false then (s.1++ [i]++ [x],true) else (s.1++ [x],s.2)
def finP (i:Int) (s:List Int×Bool):List Int:=if s.2 then s.1 else s.1++ [i]
def pIns (l:List Int) (i:Int):List Int:=finP i (l.foldl (stP i) ([],false))
def insA (i:Int) (p:List Int):List Int×Bool:=if p.any (fun x=>decide (i<x)) then (p.filter (fun x=>decide (x<i))++i::p.filter (fun x=>decide (i<x)),true) else (p,false)
theorem fold_ins {i : Int} {l : List Int} (h : l.Pairwise (· < ·)) (hi : i ∉ l) : ∀ n, n <= l.length -> (l.take n).foldl (stP i) ([], false) = insA i (l.take n)
  | 0,_=>by simp [insA]
  | n + 1, hn => by
    have hlt:n<l.length:=hn
    have hs:(l.take n++ [l[n]]).Pairwise (· < ·):=by
      rw [←List.take_succ_eq_append_getElem hlt];exact h.sublist (List.take_sublist _ _)
    have hm: ∀y∈l.take n,y<l[n]:=fun y hy=>(List.pairwise_append.1 hs).2.2 y hy _ (by simp)
    have hne: ∀y∈l.take n,y≠i:=fun y hy e=>hi (e▸List.mem_of_mem_take hy)
    have hxe:l[n]≠i:=fun e=>hi (e▸List.getElem_mem hlt)
    rw [List.take_succ_eq_append_getElem hlt,List.foldl_append,fold_ins h hi n (by omega)]
    simp only [List.foldl_cons,List.foldl_nil]
    generalize l[n]=x at *
    generalize l.take n=p at *
    unfold insA
    by_cases ha:p.any (fun x=>decide (i<x))=true
    · obtain ⟨y,hy,hy2⟩:=List.any_eq_true.1 ha
      have h1:i<x:=Int.lt_trans (of_decide_eq_true hy2) (hm y hy)
      have h2: ¬x<i:=by omega
      rw [if_pos ha,if_pos (by simp [List.any_append,ha])]
      unfold stP
      rw [if_neg (by simp)]
      simp [List.filter_append,h1,h2]
    · have hall: ∀y∈p,y<i:=fun y hy=>by
        have: ¬i<y:=fun q=>ha (List.any_eq_true.2 ⟨y,hy,decide_eq_true q⟩)
        have:=hne y hy
        omega
      have f1:p.filter (fun x=>decide (x<i))=p:=List.filter_eq_self.2 fun y hy=>decide_eq_true (hall y hy)
      have f2:p.filter (fun x=>decide (i<x))= []:=List.filter_eq_nil_iff.2 fun y hy=>by have:=hall y hy;simp;omega
      rw [if_neg ha]
      unfold stP
      by_cases hx:i<x
      · rw [if_pos ⟨hx,rfl⟩,if_pos (by simp [List.any_append,hx])]
        simp [List.filter_append,f1,f2,hx,show ¬x<i by omega]
      · rw [if_neg (by simp [hx]),if_neg (by simp only [List.any_append,List.any_cons,List.any_nil,Bool.or_false,Bool.or_eq_true,not_or];exact ⟨ha,by simp;omega⟩)]
theorem pIns_eq {i:Int} {l:List Int} (h:l.Pairwise (· < ·)) (hi:i∉l):pIns l i=l.filter (fun x=>decide (x<i))++i::l.filter (fun x=>decide (i<x)):=by
  have:=fold_ins h hi l.length (Nat.le_refl _)
  rw [List.take_length] at this
  unfold pIns
  rw [this]
  unfold insA
  by_cases ha:l.any (fun x=>decide (i<x))=true
  · rw [if_pos ha];rfl
  · have hall: ∀y∈l,y<i:=fun y hy=>by
      have h1: ¬i<y:=fun q=>ha (List.any_eq_true.2 ⟨y,hy,decide_eq_true q⟩)
      have h2:y≠i:=fun e=>hi (e▸hy)
      omega
    rw [if_neg ha,List.filter_eq_self.2 fun y hy=>decide_eq_true (hall y hy),List.filter_eq_nil_iff.2 fun y hy=>by have:=hall y hy;simp;omega]
    rfl
theorem pIns_rise {i : Int} {l : List Int} (h : l.Pairwise (· < ·)) (hi : i ∉ l) : (pIns l i).Pairwise (· < ·) /\ ∀ v, v ∈ pIns l i ↔ v ∈ l ∨ v = i := by
  rw [pIns_eq h hi]
  refine ⟨?_,fun v=> ?_⟩
  · rw [List.pairwise_append,List.pairwise_cons]
    refine ⟨h.filter _,⟨fun b hb=>of_decide_eq_true (List.mem_filter.1 hb).2,h.filter _⟩,fun a ha b hb=> ?_⟩
    have h1:=of_decide_eq_true (List.mem_filter.1 ha).2
    rcases List.mem_cons.1 hb with e | hb
    · omega
    · have h2:=of_decide_eq_true (List.mem_filter.1 hb).2;omega
  · rw [List.mem_append, List.mem_cons, List.mem_filter, List.mem_filter]
    simp only [decide_eq_true_eq]
    constructor
    · rintro (q | q | q)
      · exact .inl q.1
      · exact .inr q
      · exact .inl q.1
    · rintro (q | q)
      · have:v≠i:=fun e=>hi (e▸q)
        rcases Int.lt_or_gt_of_ne this with r | r
        · exact .inl ⟨q,r⟩
        · exact .inr (.inr ⟨q,r⟩)
      · exact .inr (.inl q)
theorem fold_take {i:Int} {l:List Int} {j:Nat} {x:Int} (h:l[j]? =some x):(l.take (j+1)).foldl (stP i) ([],false)=stP i ((l.take j).foldl (stP i) ([],false)) x:=by
  rw [List.take_add_one,h,List.foldl_append];rfl
theorem fold_len {i:Int}: ∀ (l:List Int) (s:List Int×Bool),(l.foldl (stP i) s).1.length<=s.1.length+2*l.length
  | [],s=>Nat.le_refl _
  | x :: l, s => by
    have h1:=fold_len (i:=i) l (stP i s x)
    have h2:(stP i s x).1.length<=s.1.length+2:=by unfold stP;split<;>simp
    simp only [List.foldl_cons,List.length_cons];omega
def stW (w:Int) (s x:Int):Int:=if x/64=w then IntKind.u64.wrap (s+2^(x%64).toNat) else s
def pWord (l:List Int) (w:Int):Int:=l.foldl (stW w) 0
theorem wsum (X : Nat) (hX : X < 2 ^ 64) : ∀ n, n <= 64 -> ((List.range n).filter fun b => X.testBit b).foldl (fun s b => IntKind.u64.wrap (s + 2 ^ b)) (0 : Int) = ((X % 2 ^ n : Nat) : Int)
  | 0,_=>by simp [Nat.mod_one]
  | n + 1, hn => by
    rw [List.range_succ,List.filter_append,List.foldl_append,wsum X hX n (by omega)]
    have hm:=Nat.mod_pow_succ (x:=X) (b:=2) (k:=n)
    have h64:X%2^(n+1)<2^64:=Nat.lt_of_le_of_lt (Nat.mod_le ..) hX
    cases hb:X.testBit n with
    | true =>
      have h1:X/2^n%2=1:=by rw [Nat.testBit_eq_decide_div_mod_eq] at hb;exact of_decide_eq_true hb
      rw [h1,Nat.mul_one] at hm
      simp only [List.filter_cons,hb,if_true,List.filter_nil,List.foldl_cons,List.foldl_nil]
      rw [hm] at h64 ⊢
      rw [wrap_u64]
      have e:((2:Int)^n)=((2^n:Nat):Int):=by simp
      rw [e]
      generalize 2^n=q at *
      generalize X%q=r at *
      omega
    | false =>
      have h1:X/2^n%2=0:=by
        rw [Nat.testBit_eq_decide_div_mod_eq] at hb
        have:=of_decide_eq_false hb;omega
      rw [h1,Nat.mul_zero,Nat.add_zero] at hm
      simp [hb,hm]
theorem bits_sum {X:Nat} (hX:X<2^64):(bitsL X).foldl (fun s b=>IntKind.u64.wrap (s+2^b)) (0:Int)=((X:Nat):Int):=by
  have:=wsum X hX 64 (Nat.le_refl _)
  rw [Nat.mod_eq_of_lt hX] at this
  exact this
theorem pWord_wd {K : MK} (I : WdK K) {l : List Int} {m : KV} {c : Nat} (h : SpS K l m c) (hl : l.Pairwise (· < ·)) (w : Int) : pWord l w = wd m w := by
  have hW:=wd_W I h.ok w
  unfold W at hW
  have hB:(l.filter fun x=>decide (x/64=w)).map (fun x=>(x%64).toNat)=bitsL (wd m w).toNat:=by
    refine rise_eq ?_ (bitsL_rise _) fun v=> ?_
    · rw [List.pairwise_map]
      refine List.Pairwise.imp_of_mem (fun {a b} ha hb hab=> ?_) (hl.filter _)
      have h1:=of_decide_eq_true (List.mem_filter.1 ha).2
      have h2:=of_decide_eq_true (List.mem_filter.1 hb).2
      omega
    · rw [bitsL_mem,List.mem_map]
      constructor
      · rintro ⟨x,hx,rfl⟩
        have h1:=of_decide_eq_true (List.mem_filter.1 hx).2
        exact ⟨by omega,(h.bit w _ (by omega)).2 ⟨x,(List.mem_filter.1 hx).1,h1,rfl⟩⟩
      · rintro ⟨h1,h2⟩
        obtain ⟨x,hx,h3,h4⟩:=(h.bit w v h1).1 h2
        exact ⟨x,List.mem_filter.2 ⟨hx,decide_eq_true h3⟩,h4⟩
  have e:pWord l w=((l.filter fun x=>decide (x/64=w)).map (fun x=>(x%64).toNat)).foldl (fun s b=>IntKind.u64.wrap (s+2^b)) (0:Int):=by
    rw [List.foldl_map,List.foldl_filter]
    unfold pWord
    congr 1
    funext s x
    unfold stW
    by_cases q:x/64=w
    · rw [if_pos q,if_pos (decide_eq_true q)]
    · rw [if_neg q,if_neg (by simp [q])]
  rw [e,hB,bits_sum (by omega)]
  omega
theorem word_take {w:Int} {l:List Int} {j:Nat} {x:Int} (h:l[j]? =some x):(l.take (j+1)).foldl (stW w) 0=stW w ((l.take j).foldl (stW w) 0) x:=by
  rw [List.take_add_one,h,List.foldl_append];rfl
def dg4 (x:Int):List Int:= [x/256/256/256%256,x/256/256%256,x/256%256,x%256]
def dg8 (x:Int):List Int:= [x/256/256/256/256/256/256/256%256,x/256/256/256/256/256/256%256,x/256/256/256/256/256%256,x/256/256/256/256%256]++dg4 x
theorem fb {x:Int} (h:0<=x) (q:Int) (hq:0<=q):IntKind.u8.wrap (Int.fdiv x q)=x/q%256:=by
  rw [Int.fdiv_eq_ediv_of_nonneg _ hq];rfl
theorem nb4_dg {x:Int} (h:W x):nb4 x=dg4 x:=by
  unfold W at h
  unfold nb4 dg4
  simp only [Int.reducePow]
  rw [fb h.1 16777216 (by decide),fb h.1 65536 (by decide),fb h.1 256 (by decide),fb h.1 1 (by decide)]
  have e1:x/16777216%256=x/256/256/256%256:=by omega
  have e2:x/65536%256=x/256/256%256:=by omega
  have e3:x/1%256=x%256:=by omega
  rw [e1,e2,e3]
theorem nb8_dg {x:Int} (h:W x):nb8 x=dg8 x:=by
  have h4:=nb4_dg h
  unfold W at h
  unfold dg8
  rw [←h4]
  unfold nb8 nb4
  simp only [Int.reducePow]
  rw [fb h.1 72057594037927936 (by decide),fb h.1 281474976710656 (by decide),fb h.1 1099511627776 (by decide),fb h.1 4294967296 (by decide)]
  have e1:x/72057594037927936%256=x/256/256/256/256/256/256/256%256:=by omega
  have e2:x/281474976710656%256=x/256/256/256/256/256/256%256:=by omega
  have e3:x/1099511627776%256=x/256/256/256/256/256%256:=by omega
  have e4:x/4294967296%256=x/256/256/256/256%256:=by omega
  rw [e1,e2,e3,e4];rfl
def stX (Wf:Int->Int) (s:List Int×Option Int) (x:Int):List Int×Option Int:=(if s.2=some (x/64) then s.1 else s.1++(dg4 (x/64)++dg8 (Wf (x/64))),some (x/64))
def textL (l:List Int):List Int:=(l.foldl (stX (pWord l)) ([],none)).1
theorem group_fold (Wf:Int->Int) {w:Int}: ∀ (g:List Int) (acc:List Int),(∀x∈g,x/64=w)->g.foldl (stX Wf) (acc,some w)=(acc,some w)
  | [],acc,_=>rfl
  | x :: g, acc, h => by
    have hx:=h x (List.mem_cons_self ..)
    rw [List.foldl_cons]
    unfold stX
    rw [hx,if_pos rfl]
    exact group_fold Wf g acc fun y hy=>h y (List.mem_cons_of_mem _ hy)
theorem text_fold {m : KV} (Wf : Int -> Int) : ∀ {ks : List Value}, Rise ks -> (∀ k ∈ ks, numsW m k ≠ [] /\ dg4 (ci k) ++ dg8 (Wf (ci k)) = wordB m k) -> ∀ (acc : List Int) (pv : Option Int), (∀ k ∈ ks, pv ≠ some (ci k)) -> ((numsK m ks).foldl (stX Wf) (acc, pv)).1 = acc ++ wordsB m ks
  | [],_,_,acc,pv,_=>by simp [numsK,wordsB]
  | k :: ks, hr, hk, acc, pv, hp => by
    unfold Rise at hr
    rw [List.pairwise_cons] at hr
    show ((numsW m k++numsK m ks).foldl (stX Wf) (acc,pv)).1=acc++(wordB m k++wordsB m ks)
    rw [List.foldl_append]
    obtain ⟨h1,h2⟩:=hk k (List.mem_cons_self ..)
    have hg: ∀x∈numsW m k,x/64=ci k:=by
      intro x hx
      unfold numsW at hx
      obtain ⟨b,hb,rfl⟩:=List.mem_map.1 hx
      have:=(bitsL_mem.1 hb).1
      omega
    cases hN:numsW m k with
    | nil=>exact absurd hN h1
    | cons x g =>
      rw [hN] at hg
      have hx:=hg x (List.mem_cons_self ..)
      rw [List.foldl_cons]
      have e:stX Wf (acc,pv) x=(acc++wordB m k,some (ci k)):=by
        unfold stX
        rw [hx,if_neg (hp k (List.mem_cons_self ..)),h2]
      rw [e,group_fold Wf g _ fun y hy=>hg y (List.mem_cons_of_mem _ hy),text_fold Wf hr.2 (fun q hq=>hk q (List.mem_cons_of_mem _ hq)) _ _ (fun q hq e=> ?_),List.append_assoc]
      injection e with e
      have:=hr.1 q hq
      omega
theorem textL_take {l:List Int} {j:Nat} {x:Int} (Wf:Int->Int) (h:l[j]? =some x):(l.take (j+1)).foldl (stX Wf) ([],none)=stX Wf ((l.take j).foldl (stX Wf) ([],none)) x:=by
  rw [List.take_add_one,h,List.foldl_append];rfl
theorem stX_prev (Wf:Int->Int) {l:List Int} {j:Nat} {x:Int} (h:l[j]? =some x):((l.take (j+1)).foldl (stX Wf) ([],none)).2=some (x/64):=by
  rw [textL_take Wf h];rfl
theorem stX_len (Wf:Int->Int): ∀ (l:List Int) (s:List Int×Option Int),(l.foldl (stX Wf) s).1.length<=s.1.length+12*l.length
  | [],s=>Nat.le_refl _
  | x :: l, s => by
    have h1:=stX_len Wf l (stX Wf s x)
    have h2:(stX Wf s x).1.length<=s.1.length+12:=by
      unfold stX;simp only;split
      · omega
      · simp [dg8,dg4]
    simp only [List.foldl_cons,List.length_cons];omega
def strL (l:List Int):ByteArray:=strOf (bv l)
theorem strL_eq (l:List Int):strL l=l.foldl (fun r n=>r.push (UInt8.ofNat n.toNat)) ByteArray.empty:=by unfold strL strOf;rw [bv_ci]
theorem push_data (l:List Int): ∀ (b:ByteArray),(l.foldl (fun r n=>r.push (UInt8.ofNat n.toNat)) b).data=b.data++(l.map fun n=>UInt8.ofNat n.toNat).toArray:=by
  induction l with
  | nil=>intro b;simp
  | cons a l ih =>
    intro b
    rw [List.foldl_cons,ih]
    show (b.data.push _)++_=_
    apply Array.ext'
    simp
theorem strL_data (l:List Int):(strL l).data=(l.map fun n=>UInt8.ofNat n.toNat).toArray:=by rw [strL_eq,push_data];show #[]++_=_;simp
theorem strL_app (a b:List Int):strL a++strL b=strL (a++b):=by
  apply ByteArray.ext
  rw [ByteArray.data_append,strL_data,strL_data,strL_data]
  simp
theorem strL_size (l:List Int):(strL l).size=l.length:=by
  show (strL l).data.size=_
  rw [strL_data];simp
theorem xstrN {P:Program} {src dst e:TypeId} (hs:P.underlying src=some (.slice e)) (he:P.underlying e=some (.int .u8)) (hd:P.underlying dst=some .string) (b:Nat) (l:List Int) (te:TypeId):
    OpT P (do pure (.value (←convert src dst (.slice (some ⟨b,0,none⟩) l.length l.length)))) [.blk b (.cells (bv l).toArray te (0,0))] Unit (fun _=> .string (strL l)) (fun _=> [.blk b (.cells (bv l).toArray te (0,0))]) (fun _=>True):=by
  have h:=xstr hs he hd (.mk b (bv l) []) te (bok_lit b l [])
  rw [rvals_eq] at h
  simp only [sv,ss,vals,List.append_nil,bv,List.length_map,List.length_nil,Nat.add_zero] at h
  exact h
def strV:Value->ByteArray | .string a=>a | _=>ByteArray.empty
def f_cat:List Value->Value:=fun vs=> .string (strV (varg vs 0)++strV (varg vs 1))
theorem xstrcat {P:Program} {t:TypeId} (a b:ByteArray) (h:a.size+b.size<=1000000):PureRun P (xBin .add t (.string a) (.string b)) (.string (a++b)):=by
  intro w
  have hs: ¬ ((a.size+b.size:Nat):Int)>IntKind.i64.max:=by
    have:IntKind.i64.max=9223372036854775807:=rfl
    omega
  simp only [xBin,eqGuard,binOp,Op.stringOp,hs,if_false]
  rfl
def F_strN:List Value->List Slot->Ctr:=fun _ hs=>⟨Unit,fun _=> .string (strL [ci (scell (sarg hs 0) 0)]),fun _=>hs,fun _=>True⟩
theorem strL_nil:(⟨#[]⟩:ByteArray)=strL []:=rfl
theorem scat4 (a b c d:Int):strL [a]++(strL [b]++(strL [c]++(strL [d]++(⟨#[]⟩:ByteArray))))=strL [a,b,c,d]:=by
  rw [strL_nil];simp only [strL_app];rfl
theorem scat8 (a b c d e f g h:Int):strL [a]++(strL [b]++(strL [c]++(strL [d]++(strL [e]++(strL [f]++(strL [g]++(strL [h]++(⟨#[]⟩:ByteArray))))))))=strL [a,b,c,d,e,f,g,h]:=by
  rw [strL_nil];simp only [strL_app];rfl
theorem dg4_len (x:Int):(dg4 x).length=4:=rfl
theorem dg8_len (x:Int):(dg8 x).length=8:=rfl
theorem rem256 {x:Int} (h:W x):IntKind.u8.wrap (Int.tmod x 256)=x%256:=by
  unfold W at h
  rw [Int.tmod_eq_emod_of_nonneg h.1]
  show x%256%256=x%256
  omega
theorem quo256 {x:Int} (h:W x):IntKind.u64.wrap (Int.tdiv x 256)=x/256:=by
  unfold W at h
  rw [Int.tdiv_eq_ediv_of_nonneg h.1,wrap_u64];omega
theorem W_d256 {x:Int} (h:W x):W (x/256):=by unfold W at *;omega
theorem pWord_W (l:List Int) (w:Int):W (pWord l w):=by
  unfold pWord
  have: ∀ (l:List Int) (s:Int),W s->W (l.foldl (stW w) s):=by
    intro l
    induction l with
    | nil=>exact fun s h=>h
    | cons x l ih =>
      intro s h
      rw [List.foldl_cons]
      refine ih _ ?_
      unfold stW
      split
      · rw [wrap_u64];unfold W;omega
      · exact h
  exact this l 0 ⟨by decide,by decide⟩
def PutB (m:KV) (v:Value) (i:Int) (x:KV×Value×Bool):Prop:=x.2.2= !decide (i∈bl m v)/\InBag x.1 x.2.1 (uvs (if i∈bl m v then bl m v else pIns (bl m v) i))/\ ∀v' k',InBag m v' k' ->InBag x.1 v' k'
theorem putB_of {m:KV} {v:Value} {i:Int} {x:KV×Value×Bool} (h: ∃k,(x.2.2=true->k=uvs (pIns (bl m v) i)/\i∉bl m v)/\(x.2.2=false->i∈bl m v/\k=uvs (bl m v))/\InBag x.1 x.2.1 k/\ ∀v' k',InBag m v' k' ->InBag x.1 v' k'):PutB m v i x:=by
  obtain ⟨k,h1,h2,h3,h4⟩:=h
  unfold PutB
  cases hb:x.2.2 with
  | true =>
    obtain ⟨e,n⟩:=h1 hb
    rw [if_neg n,←e]
    exact ⟨by simp [n],h3,h4⟩
  | false =>
    obtain ⟨n,e⟩:=h2 hb
    rw [if_pos n,←e]
    exact ⟨by simp [n],h3,h4⟩
theorem fresh_blk: ∀ (m:KV),∃B,∀e∈m,∀a n c,e.1=Value.slice (some a) n c->a.block<B
  | []=>⟨0,fun _ h=>by cases h⟩
  | e :: m => by
    obtain ⟨B,hB⟩:=fresh_blk m
    refine ⟨B+(match e.1 with | .slice (some a) _ _=>a.block | _=>0)+1,fun q hq a n c h=> ?_⟩
    rcases List.mem_cons.1 hq with rfl | hq
    · rw [h];simp only;omega
    · have:=hB q hq a n c h;omega
theorem putB_wit {m:KV} {v:Value} {i:Int} (h:InBag m v (uvs (bl m v))): ∃x,PutB m v i x:=by
  by_cases hi:i∈bl m v
  · exact ⟨(m,v,false),by unfold PutB;rw [if_pos hi];exact ⟨by simp [hi],h,fun _ _ q=>q⟩⟩
  · obtain ⟨B,hB⟩:=fresh_blk m
    let y:Row:= .mk B (uvs (pIns (bl m v) i)) []
    have hy:y≠ .nil:=by simp [y]
    have hn:mget m (sv y)=none:=mget_none.2 fun e he q=>by
      have:=hB e he _ _ _ q
      exact absurd this (Nat.lt_irrefl _)
    exact ⟨(m++ [rowE y],sv y,true),by unfold PutB;rw [if_neg hi];exact ⟨by simp [hi],InBag.new h.ok hy hn,fun v' k' q=>q.add hy hn⟩⟩
theorem not_take {l:List Int} {i x:Int} {j:Nat} (h:i∉l.take j) (hx:l[j]? =some x) (hne:x≠i):i∉l.take (j+1):=by
  rw [List.take_add_one,hx]
  intro q
  rcases List.mem_append.1 q with q | q
  · exact h q
  · simp at q;exact hne q.symm
theorem dbl_w {k:Nat} (h:k<63):IntKind.u64.wrap (2*((2^k:Nat):Int))=((2^(k+1):Nat):Int):=by
  have:2^k<2^63:=Nat.pow_lt_pow_right (by decide) h
  rw [wrap_u64,Nat.pow_succ]
  generalize 2^k=q at *
  omega
theorem stP_pos {i x:Int} {s:List Int×Bool} (h:i<x) (hs:s.2=false):stP i s x=(s.1++ [i]++ [x],true):=by unfold stP;rw [if_pos ⟨h,hs⟩]
theorem stP_neg {i x:Int} {s:List Int×Bool} (h: ¬ (i<x/\s.2=false)):stP i s x=(s.1++ [x],s.2):=by unfold stP;rw [if_neg h]
theorem stX_new {Wf:Int->Int} {x:Int} {s:List Int×Option Int} (h:s.2≠some (x/64)):(stX Wf s x).1=s.1++(dg4 (x/64)++dg8 (Wf (x/64))):=by unfold stX;simp only;rw [if_neg h]
theorem stX_old {Wf:Int->Int} {x:Int} {s:List Int×Option Int} (h:s.2=some (x/64)):(stX Wf s x).1=s.1:=by unfold stX;simp only;rw [if_pos h]
theorem emp_size:(⟨#[]⟩:ByteArray).size=0:=rfl
end Go.Sx
namespace Go.Sx
open Go.RowKit
abbrev A3:=Int×Int×Int
abbrev aV (x:A3) (n:Int):Value:= .agg #[.int .u8 x.1, .int .i64 x.2.1, .int .i64 x.2.2, .int .i64 n]
abbrev A4:=Int×Int×Int×Int
structure SB (K:MK) (ent:KV->Value->Ent) (hs:List KV) (L:List Ent) (m:KV):Prop where
  jr:Jr K ent hs L m
  ok:KOK K m
  zero: ∃h0,(hs++ [m])[0]? =some h0/\EqM h0 []
theorem SB.start {K:MK} {ent:KV->Value->Ent}:SB K ent [] [] []:=⟨Jr.nil [],KOK.nil,[],rfl,EqM.refl _⟩
theorem SB.back {K:MK} {ent:KV->Value->Ent} {b:Nat} (E:EntOK b ent) {hs:List KV} {L:List Ent} {m:KV} (h:SB K ent hs L m) {n:Nat} (hn:n<=L.length) {h0:KV} (h1:(hs++ [m])[n]? =some h0):
    SB K ent (hs.take n) (L.take n) (undoB b (L.drop n) m)/\EqM (undoB b (L.drop n) m) h0:=by
  obtain ⟨k1,k2,k3⟩:=h.jr.back E h.ok hn h1
  refine ⟨⟨k3,k1,?_⟩,k2⟩
  obtain ⟨z,z1,z2⟩:=h.zero
  cases n with
  | zero =>
    rw [z1] at h1
    injection h1 with h1
    exact ⟨_,by simp,k2.trans (h1▸z2)⟩
  | succ n =>
    refine ⟨z,?_,z2⟩
    have hl:0<hs.length:=by rw [h.jr.1];omega
    rw [List.getElem?_append_left (by simp only [List.length_take];omega)]
    rw [List.getElem?_append_left hl] at z1
    rw [List.getElem?_take_of_lt (Nat.succ_pos n)]
    exact z1
end Go.Sx
set_option linter.unusedVariables false
set_option linter.unusedSimpArgs false
namespace Go.Sx
open Go.RowKit
theorem rise_eqI : ∀ {l l' : List Int}, l.Pairwise (· < ·) -> l'.Pairwise (· < ·) -> (∀ v, v ∈ l ↔ v ∈ l') -> l = l'
  | [],[],_,_,_=>rfl
  | [],b::l',_,_,h=>absurd ((h b).2 (List.mem_cons_self ..)) (by simp)
  | a::l,[],_,_,h=>absurd ((h a).1 (List.mem_cons_self ..)) (by simp)
  | a :: l, b :: l', h1, h2, h => by
    rw [List.pairwise_cons] at h1 h2
    have e:a=b:=by
      rcases List.mem_cons.1 ((h a).1 (List.mem_cons_self ..)) with e | hm
      · exact e
      · rcases List.mem_cons.1 ((h b).2 (List.mem_cons_self ..)) with e | hm'
        · exact e.symm
        · have:=h2.1 _ hm;have:=h1.1 _ hm';omega
    subst e
    rw [rise_eqI h1.2 h2.2 fun v=> ?_]
    constructor
    · intro hv
      rcases List.mem_cons.1 ((h v).1 (List.mem_cons_of_mem _ hv)) with e | hm
      · subst e;exact absurd (h1.1 _ hv) (Int.lt_irrefl _)
      · exact hm
    · intro hv
      rcases List.mem_cons.1 ((h v).2 (List.mem_cons_of_mem _ hv)) with e | hm
      · subst e;exact absurd (h2.1 _ hv) (Int.lt_irrefl _)
      · exact hm
theorem numsK_iff {m:KV} (hm:MOK m) {l:List Value} (h:KeysOf .u32 m l) (v:Int):v∈numsK m l↔hasI m v=true:=by
  refine ⟨numsK_mem h,fun hv=> ?_⟩
  unfold hasI at hv
  have hs:(mget m (u32v (v/64))).isSome=true:=by
    cases hg:mget m (u32v (v/64)) with
    | some x=>rfl
    | none=>rw [show wd m (v/64)=0 by unfold wd;rw [hg];rfl] at hv;simp at hv
  obtain ⟨x,hx⟩:=Option.isSome_iff_exists.1 hs
  refine List.mem_flatMap.2 ⟨u32v (v/64),h.1.mem_iff.2 (List.mem_map_of_mem (f:=(·.1)) (mget_mem hx)),?_⟩
  unfold numsW
  refine List.mem_map.2 ⟨(v%64).toNat,bitsL_mem.2 ⟨by omega,hv⟩,?_⟩
  show v/64*64+(((v%64).toNat:Nat):Int)=v
  omega
structure Doc (K:MK) (ln:List Int) (m:KV):Prop where
  s: ∃c,SpS K ln m c
  r:ln.Pairwise (· < ·)
  w: ∀x∈ln,(Lit.int .u32 x).wf=true
theorem Doc.ok {K:MK} {ln:List Int} {m:KV} (h:Doc K ln m):KOK K m:=h.s.elim fun _ q=>q.ok
theorem Doc.nil {K:MK}:Doc K [] []:=⟨⟨0,SpS.nil⟩,List.Pairwise.nil,fun _ h=>by cases h⟩
theorem Doc.has {K:MK} {ln:List Int} {m:KV} (h:Doc K ln m) (i:Int):hasI m i=decide (i∈ln):=by
  obtain ⟨c,q⟩:=h.s
  rw [Bool.eq_iff_iff,q.has,decide_eq_true_eq]
theorem Doc.nums {K:MK} {ln:List Int} {m:KV} (h:Doc K ln m) {l:List Value} (hx:KeysOf .u32 m l):numsK m l=ln:=by
  obtain ⟨c,q⟩:=h.s
  exact rise_eqI (numsK_rise hx.2.1) h.r fun v=>by rw [numsK_iff q.ok.once hx,q.has]
theorem Doc.tot {K:MK} (I:WdK K) {ln:List Int} {m:KV} (h:Doc K ln m):totW m=ln.length:=by
  obtain ⟨c,q⟩:=h.s
  obtain ⟨z,hz⟩:=keysOf_wit (SpS.int I q.ok).1 q.ok.once
  rw [←numsK_totW q.ok.once hz,h.nums hz]
theorem Doc.len {K:MK} (I:WdK K) {ln:List Int} {m:KV} (h:Doc K ln m):m.length<=ln.length:=h.s.elim fun _ q=>q.len I
theorem Doc.keyb {K:MK} {ln:List Int} {m:KV} (h:Doc K ln m) {l:List Value} (hx:KeysOf .u32 m l): ∀v∈l,0<=ci v/\ci v<=67108863:=h.s.elim fun _ q=>q.keyb h.w hx
theorem Doc.word {K:MK} (I:WdK K) {ln:List Int} {m:KV} (h:Doc K ln m) (w:Int):wd m w=pWord ln w:=h.s.elim fun _ q=>(pWord_wd I q h.r w).symm
theorem Doc.text {K:MK} (I:WdK K) {ln:List Int} {m:KV} (h:Doc K ln m) {l:List Value} (hx:KeysOf .u32 m l):wordsB m l=textL ln:=by
  obtain ⟨c,q⟩:=h.s
  have hk: ∀k∈l,numsW m k≠ []/\dg4 (ci k)++dg8 (pWord ln (ci k))=wordB m k:=by
    intro k hk
    have hb:=h.keyb hx k hk
    obtain ⟨n,rfl⟩:=hx.2.2 k hk
    have hm:=hx.1.mem_iff.1 hk
    obtain ⟨e,he,h1⟩:=List.mem_map.1 hm
    have hg:=mget_of_mem q.ok.once he
    rw [h1] at hg
    have hg' :mget m (u32v n)=some e.2:=hg
    obtain ⟨x,hx',h2⟩:=(q.key n).1 (by rw [hg'];rfl)
    refine ⟨fun hn=> ?_,?_⟩
    · have ht:(wd m n).toNat.testBit (x%64).toNat=true:=(q.bit n _ (by omega)).2 ⟨x,hx',h2,rfl⟩
      unfold numsW at hn
      have h3:=List.map_eq_nil_iff.1 hn
      have:(x%64).toNat∈bitsL (wd m n).toNat:=bitsL_mem.2 ⟨by omega,ht⟩
      have e0:bitsL (wd m n).toNat= []:=h3
      rw [e0] at this;cases this
    · have hb' :0<=n/\n<=67108863:=hb
      show dg4 n++dg8 (pWord ln n)=nb4 (IntKind.u64.wrap n)++nb8 (wd m n)
      rw [h.word I,show IntKind.u64.wrap n=n by rw [wrap_u64];omega,nb4_dg (show W n by unfold W;omega),nb8_dg (pWord_W _ _)]
  have:=text_fold (m:=m) (pWord ln) hx.2.1 hk [] none (fun k _ e=>by cases e)
  rw [h.nums hx] at this
  unfold textL
  rw [this];rfl
theorem SpS.congr {K:MK} {P Q:List Int} {m:KV} {c:Nat} (h:SpS K P m c) (e: ∀x,x∈Q↔x∈P):SpS K Q m c:=
  ⟨h.ok,fun w b hb=>by rw [h.bit w b hb];simp only [e],fun w=>by rw [h.key w];simp only [e],h.cnt⟩
theorem Doc.put {K:MK} (I:WdK K) {ln:List Int} {m:KV} (h:Doc K ln m) {x:Int} (hx:(Lit.int .u32 x).wf=true):Doc K (if x∈ln then ln else pIns ln x) (putO m x):=by
  obtain ⟨c,q⟩:=h.s
  by_cases hi:x∈ln
  · rw [if_pos hi]
    have hh:=(q.has x).2 hi
    unfold putO
    rw [if_pos hh]
    exact h
  · rw [if_neg hi]
    obtain ⟨h1,h2⟩:=pIns_rise h.r hi
    refine ⟨⟨_,(q.put I x).congr fun v=> ?_⟩,h1,fun v hv=> ?_⟩
    · rw [h2,List.mem_append,List.mem_singleton]
    · rcases (h2 v).1 hv with r | r
      · exact h.w v r
      · exact r▸hx
theorem Doc.eqm {K:MK} (I:WdK K) {ln:List Int} {m n:KV} (h:Doc K ln m) (hn:KOK K n) (e:EqM n m):Doc K ln n:=by
  obtain ⟨c,q⟩:=h.s
  have hw: ∀w,wd n w=wd m w:=fun w=>by unfold wd;rw [e]
  refine ⟨⟨totW n,hn,fun w b hb=>by rw [hw];exact q.bit w b hb,fun w=>by rw [e];exact q.key w,rfl⟩,h.r,h.w⟩
theorem pIns_len {ln : List Int} {x : Int} (h : ln.Pairwise (· < ·)) : (if x ∈ ln then ln else pIns ln x).length <= ln.length + 1 := by
  by_cases hi:x∈ln
  · rw [if_pos hi];omega
  · rw [if_neg hi, pIns_eq h hi]
    have hp: ∀l:List Int,x∉l->(l.filter (fun y=>decide (y<x))).length+(l.filter (fun y=>decide (x<y))).length<=l.length:=by
      intro l
      induction l with
      | nil=>simp
      | cons a l ih =>
        intro hn
        have:=ih (fun q=>hn (List.mem_cons_of_mem _ q))
        simp only [List.filter_cons,List.length_cons]
        by_cases h1:a<x
        · have h2: ¬x<a:=by omega
          simp [h1,h2];omega
        · by_cases h2:x<a
          · simp [h1,h2];omega
          · simp [h1,h2];omega
    have:=hp ln hi
    rw [List.length_append,List.length_cons];omega
structure SpD (K:MK) (ent:KV->Value->Ent) (i:Nat) (m:KV) (L:List Ent) (mark:Int) (bm:KV) (vn vk:Value):Prop where
  ex: ∃ (hs:List KV) (ln lk:List Int) (h0:KV),SB K ent hs L m/\(hs++ [m])[mark.toNat]? =some h0/\Doc K ln m/\Doc K lk h0/\InBag bm vn (uvs ln)/\InBag bm vk (uvs lk)/\ln.length<=i/\lk.length<=i
  m0:0<=mark
  m1:mark<=((L.length:Nat):Int)
  l:L.length<=i
theorem SpD.start {K:MK} {ent:KV->Value->Ent}:SpD K ent 0 [] [] 0 [] (sv .nil) (sv .nil):=
  ⟨⟨[],[],[],[],SB.start,rfl,Doc.nil,Doc.nil,InBag.nil (fun _ h=>by cases h),InBag.nil (fun _ h=>by cases h),Nat.le_refl _,Nat.le_refl _⟩,Int.le_refl _,Int.le_refl _,Nat.le_refl _⟩
theorem SpD.doc {K:MK} {ent:KV->Value->Ent} {i:Nat} {m:KV} {L:List Ent} {mark:Int} {bm:KV} {vn vk:Value} (h:SpD K ent i m L mark bm vn vk):Doc K (bl bm vn) m/\InBag bm vn (uvs (bl bm vn))/\(bl bm vn).length<=i:=by
  obtain ⟨hs,ln,lk,h0,h1,h2,h3,h4,h5,h6,h7,h8⟩:=h.ex
  rw [h5.bl]
  exact ⟨h3,h5,h7⟩
theorem SpD.jr {K:MK} {ent:KV->Value->Ent} {i:Nat} {m:KV} {L:List Ent} {mark:Int} {bm:KV} {vn vk:Value} (h:SpD K ent i m L mark bm vn vk): ∃hs,Jr K ent hs L m:=by
  obtain ⟨hs,ln,lk,h0,h1,_⟩:=h.ex
  exact ⟨hs,h1.jr⟩
theorem SpD.mark {K:MK} {ent:KV->Value->Ent} {i:Nat} {m:KV} {L:List Ent} {mark:Int} {bm:KV} {vn vk:Value} (h:SpD K ent i m L mark bm vn vk) {x:Int} (hx:x=((L.length:Nat):Int)):SpD K ent (i+1) m L x bm vn vn:=by
  obtain ⟨hs,ln,lk,h0,h1,h2,h3,h4,h5,h6,h7,h8⟩:=h.ex
  have hl:=h1.jr.1
  have:=h.l
  exact ⟨⟨hs,ln,ln,m,h1,by rw [hx,Int.toNat_natCast,←hl];simp,h3,h3,h5,h5,by omega,by omega⟩,by omega,by omega,by omega⟩
theorem SpD.back {K:MK} (I:WdK K) {ent:KV->Value->Ent} {b:Nat} (E:EntOK b ent) {i:Nat} {m:KV} {L:List Ent} {mark:Int} {bm:KV} {vn vk:Value} (h:SpD K ent i m L mark bm vn vk) {m' :KV} (hu:m' =undoB b (L.drop mark.toNat) m):SpD K ent (i+1) m' (L.take mark.toNat) mark bm vk vk:=by
  obtain ⟨hs,ln,lk,h0,h1,h2,h3,h4,h5,h6,h7,h8⟩:=h.ex
  have hm1:=h.m1
  have hm0:=h.m0
  have hl:=h1.jr.1
  have:=h.l
  obtain ⟨S5,q5⟩:=h1.back E (n:=mark.toNat) (by omega) h2
  rw [←hu] at S5 q5
  have hd:=h4.eqm I S5.ok q5
  have ht:(hs.take mark.toNat).length=mark.toNat:=by rw [List.length_take];omega
  have ht2:(L.take mark.toNat).length=mark.toNat:=by rw [List.length_take];omega
  exact ⟨⟨_,lk,lk,m',S5,by rw [List.getElem?_append_right (by omega),ht];simp,hd,hd,h6,h6,by omega,by omega⟩,hm0,by rw [ht2];omega,by rw [ht2];omega⟩
theorem SpD.ans {K:MK} {ent:KV->Value->Ent} {i:Nat} {m:KV} {L:List Ent} {mark:Int} {bm:KV} {vn vk:Value} (h:SpD K ent i m L mark bm vn vk) {x:Int} {y:KV×Value×Bool} (pb:PutB bm vn x y):((!hasI m x) !=y.2.2)=false:=by
  rw [h.doc.1.has,pb.1];exact bne_self_eq_false _
theorem SpD.put {K:MK} (I:WdK K) {ent:KV->Value->Ent} {i:Nat} {m:KV} {L:List Ent} {mark:Int} {bm:KV} {vn vk:Value} (h:SpD K ent i m L mark bm vn vk) {x:Int} (hx:(Lit.int .u32 x).wf=true) {y:KV×Value×Bool} (pb:PutB bm vn x y) {m' :KV} {L' :List Ent}
    (p:m' =putO m x/\L' =bif hasI m x then L else L++ [ent m (u32v (x/64))]):SpD K ent (i+1) m' L' mark y.1 y.2.1 vk:=by
  obtain ⟨hs,ln,lk,h0,h1,h2,h3,h4,h5,h6,h7,h8⟩:=h.ex
  have hm1:=h.m1
  have hm0:=h.m0
  have hl:=h1.jr.1
  have hL:=h.l
  obtain ⟨p1,p2⟩:=p
  subst p1
  obtain ⟨_,pb2,pb3⟩:=pb
  rw [h5.bl] at pb2
  have hd:=h3.put I hx
  have hn:=pIns_len (x:=x) h3.r
  cases hh:hasI m x with
  | true =>
    rw [hh] at p2
    have p2' :L' =L:=p2
    subst p2'
    have e:putO m x=m:=put_again hh
    rw [e] at hd ⊢
    exact ⟨⟨hs,_,lk,h0,h1,h2,hd,h4,pb2,pb3 _ _ h6,by omega,by omega⟩,hm0,hm1,by omega⟩
  | false =>
    rw [hh] at p2
    have p2' :L' =L++ [ent m (u32v (x/64))]:=p2
    subst p2'
    have e:putO m x=putM m x:=by unfold putO;rw [if_neg (by rw [hh];decide)]
    obtain ⟨j,o⟩:=h1.jr.set h1.ok (I.k (x/64)) (I.v _ (setW_W (wd_W I h1.ok (x/64)) (b:=(x%64).toNat) (by omega)))
    obtain ⟨z,z1,z2⟩:=h1.zero
    have S2:SB K ent (hs++ [m]) (L++ [ent m (u32v (x/64))]) (putO m x):=by
      rw [e]
      exact ⟨j,o,z,by rw [List.getElem?_append_left (by simp)];exact z1,z2⟩
    refine ⟨⟨_,_,lk,h0,S2,by rw [List.getElem?_append_left (by simp;omega)];exact h2,hd,h4,pb2,pb3 _ _ h6,by omega,by omega⟩,hm0,?_,?_⟩
    · rw [List.length_append,List.length_singleton];omega
    · rw [List.length_append,List.length_singleton];omega
theorem cut_len {most:Int} {n:Nat}:Int.toNat (if (if ((n:Nat):Int)<most then ((n:Nat):Int) else most)>0 then (if ((n:Nat):Int)<most then ((n:Nat):Int) else most) else 0)=min (Int.toNat most) n:=by
  split<;>split<;>omega
theorem take_min {l:List Int} {most:Int}:uvs (List.take (min (Int.toNat most) l.length) l)=uvs (List.take (Int.toNat most) l):=by
  congr 1
  rcases Nat.le_total (Int.toNat most) l.length with h | h
  · rw [Nat.min_eq_left h]
  · rw [Nat.min_eq_right h,List.take_length,List.take_of_length_le h]
theorem strneq {a b:ByteArray} (h:a=b):(!(a.toList==b.toList))=false:=by rw [streq h];rfl
theorem text_eq {y:Row} {l:List Int} {e:TypeId} (hb:BOK y) (h:dg y=l):strOf (rvals (sv y) (ss e y))=strL l:=by rw [rvals_eq,hb.eq,h];rfl
end Go.Sx
namespace Go.Sx
open Go
theorem trod_field {H:Type} {enc:TypeId×Value->H} {P:Program} {w:World} {base:Nat} {sp:Nat->Bool} {held:Bool} {fs:Array Field} {cs:List Value} {xs:List (DataW H×List MemPlace)} {n:Nat} (hlen:xs.length=fs.size)
    (hf: ∀ (i:Nat) (f:Field),fs[i]? =some f->DataW.trod enc P w base sp held n f.type ((cs.drop f.offset).take (P.cellsOf f.type))=xs[i]?) (i:Nat) {f:Field} (h:fs[i]? =some f) {t off k:Nat} (ht:f.type=t) (ho:f.offset=off) (hk:P.cellsOf t=k):
    ∃y,DataW.trod enc P w base sp held n t ((cs.drop off).take k)=some y:=by
  have hi:i<fs.size:=by
    rcases Nat.lt_or_ge i fs.size with q | q
    · exact q
    · rw [Array.getElem?_eq_none q] at h;cases h
  have g:=hf i f h
  rw [ht,ho,hk,List.getElem?_eq_getElem (by omega)] at g
  exact ⟨_,g⟩
end Go.Sx
