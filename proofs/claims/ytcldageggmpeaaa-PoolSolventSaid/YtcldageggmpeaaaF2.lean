/- A part of the prover's own frame for walking code (see the claim's other texts). -/
import Derived.Test.YtcldageggmpeaaaF1
import Derived.Tactics
import Derived.Tactics2
import Derived.Laws.StructEq
import Derived.ArgAppend
import Derived.Laws.MakeOwn
import Derived.Laws.Slices
import Derived.WideKeyArr2
import Derived.OpenShut
import Derived.RowKitTokens
import Derived.Carry
import Derived.Maps.RangeRun
import Derived.RangeFuncLeaves
import Derived.RangeFuncRecord
import Derived.Lib.SliceRun
import Derived.Shelf.SlMaps.Clone
set_option linter.unusedVariables false
set_option linter.unusedSimpArgs false
namespace Go.Sx
def setw (c:Array Value) (j:Nat):List Value->Array Value
  | []=>c
  | v::vs=>setw (c.setIfInBounds j v) (j+1) vs
theorem setw_size (vs:List Value): ∀ (c:Array Value) (j:Nat),(setw c j vs).size=c.size:=by
  induction vs with
  | nil=>intro c j;rfl
  | cons v vs ih=>intro c j;rw [setw,ih,Array.size_setIfInBounds]
theorem gs {c:Array Value} {m n:Nat} {x v:Value} (h:c[m]? =some x) (hne:n≠m):(c.setIfInBounds n v)[m]? =some x:=by
  rw [Array.getElem?_setIfInBounds_ne hne];exact h
theorem setw_get_lt (vs:List Value): ∀ (c:Array Value) (j i:Nat),i<j->(setw c j vs)[i]? =c[i]? :=by
  induction vs with
  | nil=>intro c j i _;rfl
  | cons v vs ih=>intro c j i h;rw [setw,ih _ _ _ (by omega),Array.getElem?_setIfInBounds_ne (by omega)]
theorem setw_get (vs:List Value): ∀ (c:Array Value) (j i:Nat) (x:Value),j+vs.length<=c.size->vs[i]? =some x->(setw c j vs)[j+i]? =some x:=by
  induction vs with
  | nil=>intro c j i x _ h;simp at h
  | cons v vs ih =>
    intro c j i x hs h
    rw [List.length_cons] at hs
    rw [setw]
    cases i with
    | zero =>
      rw [setw_get_lt _ _ _ _ (by omega)]
      simp at h;subst h
      rw [Nat.add_zero,Array.getElem?_setIfInBounds_self_of_lt (by omega)]
    | succ i =>
      rw [show j+(i+1)=(j+1)+i from by omega]
      exact ih _ _ _ _ (by rw [Array.size_setIfInBounds];omega) (by simpa using h)
theorem setw_comm (vs:List Value): ∀ (c:Array Value) (j i:Nat) (x:Value),i<j->setw (c.setIfInBounds i x) j vs=(setw c j vs).setIfInBounds i x:=by
  induction vs with
  | nil=>intro c j i x _;rfl
  | cons v vs ih =>
    intro c j i x h
    rw [setw,setw,←ih _ _ _ _ (by omega),Array.setIfInBounds_comm _ _ (by omega)]
theorem setw_setw (vs:List Value): ∀ (ws:List Value) (c:Array Value) (j:Nat),ws.length=vs.length->setw (setw c j ws) j vs=setw c j vs:=by
  induction vs with
  | nil => intro ws c j h; cases ws with
    | nil=>rfl
    | cons=>simp at h
  | cons v vs ih =>
    intro ws c j h
    cases ws with
    | nil=>simp at h
    | cons u us =>
      rw [setw,setw,setw,←setw_comm us _ _ j v (by omega),Array.setIfInBounds_setIfInBounds]
      exact ih _ _ _ (by simpa using h)
theorem frz0 (n:Nat):frz (0,0) n=false:=by simp [frz]
structure StepR (U V q R:Int):Prop where
  eq:q*V+R=U
  r0:0<=R
  r1:R<V
  wq:W q
theorem wit_q {U V:Int} (h0:0<=U) (h1:U<V*18446744073709551616) (hV:0<V):StepR U V (U/V) (U%V):=by
  refine ⟨by rw [Int.mul_comm];exact Int.mul_ediv_add_emod _ _,Int.emod_nonneg _ (by omega),Int.emod_lt_of_pos _ hV,Int.ediv_nonneg h0 (by omega),?_⟩
  rw [Int.ediv_lt_iff_lt_mul hV,Int.mul_comm];exact h1
structure GuessR (U V g:Int):Prop where
  w:W g
  lt:U - g*V<V
theorem guess_max {U V:Int} (h:U<V*18446744073709551616):GuessR U V 18446744073709551615:=
  ⟨⟨by decide,by decide⟩,by omega⟩
theorem guess_div {U V hi lo v q r p l:Int} (h:q*v+r=hi*18446744073709551616+lo) (r1:r<v) (wq:W q) (hp:0<p) (hU:U<(hi*18446744073709551616+lo+1)*p) (hV:V=v*p+l) (l0:0<=l):GuessR U V q:=by
  refine ⟨wq,?_⟩
  have a:(hi*18446744073709551616+lo+1)*p<=(q+1)*v*p:=by
    apply Int.mul_le_mul_of_nonneg_right _ (by omega)
    rw [Int.add_mul];omega
  have b:0<=(q+1)*l:=Int.mul_nonneg (by have:=wq.1;omega) l0
  have c:(q+1)*V=(q+1)*v*p+(q+1)*l:=by rw [hV,Int.mul_add,Int.mul_assoc]
  rw [Int.add_mul q 1 V] at c
  omega
structure LoopR (U V P g c D:Int):Prop where
  w:W g
  c0:0<=c
  c1:c<=1
  eq:g*V+(D - c*P)=U
  lt:D - c*P<V
theorem loop_dec {U V P g c D c' D' k:Int} (h:LoopR U V P g c D) (hc:(c==(0:Int))=false) (hU:0<=U) (hD:D<P) (hk:D' +k*P=D+V) (hD' :0<=D') (hD1:D' <P) (k0:0<=k) (k1:k<=1)
    (hV:0<V) (hc' :c' =IntKind.u64.wrap (c - k)):LoopR U V P (IntKind.u64.wrap (g - 1)) c' D' /\(IntKind.u64.wrap (g - 1)).toNat<g.toNat:=by
  obtain ⟨w,c0,c1,eq,lt⟩:=h
  have c2:c=1:=by
    have:c≠0:=by simpa using hc
    omega
  subst c2
  have g1:1<=g:=by
    rcases Int.lt_or_le g 1 with h | h
    · have:g=0:=by have:=w.1;omega
      subst this;omega
    · exact h
  have:=w.2
  rw [wrap_W (a:=1 - k) ⟨by omega,by omega⟩] at hc'
  rw [wrap_W (a:=g - 1) ⟨by omega,by omega⟩]
  subst hc'
  have e:(1 - k)*P=P - k*P:=by rw [Int.sub_mul,Int.one_mul]
  refine ⟨⟨⟨by omega,by omega⟩,by omega,by omega,?_,?_⟩,by omega⟩
  · rw [e,Int.sub_mul g 1 V];omega
  · rw [e];omega
theorem loop_ret {U V P g c D:Int} (h:LoopR U V P g c D) (hc:(c==(0:Int))=true) (hD:0<=D):StepR U V g D:=by
  have:c=0:=by simpa using hc
  subst this
  have h1:=h.eq;have h2:=h.lt
  rw [Int.zero_mul] at h1 h2
  exact ⟨by omega,hD,by omega,h.w⟩
end Go.Sx
namespace Go.Sx
theorem dist1 (g v0:Int):g*(v0)=g*v0:=by
  rfl
theorem addk1 {v0 y0 y1 d0 d1 c0 c1:Int} (a0:AddR d0 v0 0 y0 c0) (ak:AddR d1 0 c0 y1 c1):y0+18446744073709551616*y1+c1*340282366920938463463374607431768211456=d0+18446744073709551616*d1+(v0):=by
  have e0:=a0.eq
  have ek:=ak.eq
  rw [cin0] at e0
  rw [cin_of a0.o0 a0.o1] at ek
  omega
theorem guess_ok1 {u0 u1 v0 q r e:Int} (h:DivR u1 u0 v0 q r e) (he:(e !=0)=false) (hv:0<v0) (wu0:W u0) (wu1:W u1) (wv0:W v0):GuessR (u0+18446744073709551616*u1) (v0) q:=by
  have he:e=0:=by simpa using he
  have hlt:u1<v0:=by
    rcases Int.lt_or_le u1 v0 with h' | h'
    · exact h'
    · have:=h.over (by omega) h';omega
  obtain ⟨_,h1,h2,h3,h4,h5⟩:=h.ok hlt
  refine guess_div (p:=1) (l:=0) h1 h3 ⟨h4,h5⟩ (by decide) ?_ ?_ ?_<;>unfold W at* <;>omega
theorem wit_step1 {U V:Int} (h0:0<=U) (h1:U<V*18446744073709551616) (hV:0<V) (hP:V<18446744073709551616): ∃x:Int×Int×Int,(fun zx=>StepR U V zx.1 (zx.2.1+18446744073709551616*zx.2.2)/\W zx.2.1/\W zx.2.2) x:=by
  have s:=wit_q h0 h1 hV
  refine ⟨(U/V,lim (U%V) 0,lim (U%V) 1),?_,W_lim _ _,W_lim _ _⟩
  dsimp only
  have e:lim (U%V) 0+18446744073709551616*lim (U%V) 1=U%V:=by
    have:=s.r0;have:=s.r1
    unfold lim;omega
  rw [e];exact s
theorem dist2 (g v0 v1:Int):g*(v0+18446744073709551616*v1)=g*v0+18446744073709551616*(g*v1):=by
  rw [Int.mul_add,Int.mul_left_comm g]
theorem addk2 {v0 v1 y0 y1 y2 d0 d1 d2 c0 c1 c2:Int} (a0:AddR d0 v0 0 y0 c0) (a1:AddR d1 v1 c0 y1 c1) (ak:AddR d2 0 c1 y2 c2):y0+18446744073709551616*y1+340282366920938463463374607431768211456*y2+c2*6277101735386680763835789423207666416102355444464034512896=d0+18446744073709551616*d1+340282366920938463463374607431768211456*d2+(v0+18446744073709551616*v1):=by
  have e0:=a0.eq
  have e1:=a1.eq
  have ek:=ak.eq
  rw [cin0] at e0
  rw [cin_of a0.o0 a0.o1] at e1
  rw [cin_of a1.o0 a1.o1] at ek
  omega
theorem guess_ok2 {u0 u1 u2 v0 v1 q r e:Int} (h:DivR u2 u1 v1 q r e) (he:(e !=0)=false) (hv:0<v1) (wu0:W u0) (wu1:W u1) (wu2:W u2) (wv0:W v0) (wv1:W v1):GuessR (u0+18446744073709551616*u1+340282366920938463463374607431768211456*u2) (v0+18446744073709551616*v1) q:=by
  have he:e=0:=by simpa using he
  have hlt:u2<v1:=by
    rcases Int.lt_or_le u2 v1 with h' | h'
    · exact h'
    · have:=h.over (by omega) h';omega
  obtain ⟨_,h1,h2,h3,h4,h5⟩:=h.ok hlt
  refine guess_div (p:=18446744073709551616) (l:=v0) h1 h3 ⟨h4,h5⟩ (by decide) ?_ ?_ ?_<;>unfold W at* <;>omega
theorem wit_step2 {U V:Int} (h0:0<=U) (h1:U<V*18446744073709551616) (hV:0<V) (hP:V<340282366920938463463374607431768211456): ∃x:Int×Int×Int×Int,(fun zx=>StepR U V zx.1 (zx.2.1+18446744073709551616*zx.2.2.1+340282366920938463463374607431768211456*zx.2.2.2)/\W zx.2.1/\W zx.2.2.1/\W zx.2.2.2) x:=by
  have s:=wit_q h0 h1 hV
  refine ⟨(U/V,lim (U%V) 0,lim (U%V) 1,lim (U%V) 2),?_,W_lim _ _,W_lim _ _,W_lim _ _⟩
  dsimp only
  have e:lim (U%V) 0+18446744073709551616*lim (U%V) 1+340282366920938463463374607431768211456*lim (U%V) 2=U%V:=by
    have:=s.r0;have:=s.r1
    unfold lim;omega
  rw [e];exact s
theorem dist3 (g v0 v1 v2:Int):g*(v0+18446744073709551616*v1+340282366920938463463374607431768211456*v2)=g*v0+18446744073709551616*(g*v1)+340282366920938463463374607431768211456*(g*v2):=by
  rw [Int.mul_add,Int.mul_add,Int.mul_left_comm g,Int.mul_left_comm g]
theorem addk3 {v0 v1 v2 y0 y1 y2 y3 d0 d1 d2 d3 c0 c1 c2 c3:Int} (a0:AddR d0 v0 0 y0 c0) (a1:AddR d1 v1 c0 y1 c1) (a2:AddR d2 v2 c1 y2 c2) (ak:AddR d3 0 c2 y3 c3):y0+18446744073709551616*y1+340282366920938463463374607431768211456*y2+6277101735386680763835789423207666416102355444464034512896*y3+c3*115792089237316195423570985008687907853269984665640564039457584007913129639936=d0+18446744073709551616*d1+340282366920938463463374607431768211456*d2+6277101735386680763835789423207666416102355444464034512896*d3+(v0+18446744073709551616*v1+340282366920938463463374607431768211456*v2):=by
  have e0:=a0.eq
  have e1:=a1.eq
  have e2:=a2.eq
  have ek:=ak.eq
  rw [cin0] at e0
  rw [cin_of a0.o0 a0.o1] at e1
  rw [cin_of a1.o0 a1.o1] at e2
  rw [cin_of a2.o0 a2.o1] at ek
  omega
theorem guess_ok3 {u0 u1 u2 u3 v0 v1 v2 q r e:Int} (h:DivR u3 u2 v2 q r e) (he:(e !=0)=false) (hv:0<v2) (wu0:W u0) (wu1:W u1) (wu2:W u2) (wu3:W u3) (wv0:W v0) (wv1:W v1) (wv2:W v2):GuessR (u0+18446744073709551616*u1+340282366920938463463374607431768211456*u2+6277101735386680763835789423207666416102355444464034512896*u3) (v0+18446744073709551616*v1+340282366920938463463374607431768211456*v2) q:=by
  have he:e=0:=by simpa using he
  have hlt:u3<v2:=by
    rcases Int.lt_or_le u3 v2 with h' | h'
    · exact h'
    · have:=h.over (by omega) h';omega
  obtain ⟨_,h1,h2,h3,h4,h5⟩:=h.ok hlt
  refine guess_div (p:=340282366920938463463374607431768211456) (l:=v0+18446744073709551616*v1) h1 h3 ⟨h4,h5⟩ (by decide) ?_ ?_ ?_<;>unfold W at* <;>omega
theorem wit_step3 {U V:Int} (h0:0<=U) (h1:U<V*18446744073709551616) (hV:0<V) (hP:V<6277101735386680763835789423207666416102355444464034512896): ∃x:Int×Int×Int×Int×Int,(fun zx=>StepR U V zx.1 (zx.2.1+18446744073709551616*zx.2.2.1+340282366920938463463374607431768211456*zx.2.2.2.1+6277101735386680763835789423207666416102355444464034512896*zx.2.2.2.2)/\W zx.2.1/\W zx.2.2.1/\W zx.2.2.2.1/\W zx.2.2.2.2) x:=by
  have s:=wit_q h0 h1 hV
  refine ⟨(U/V,lim (U%V) 0,lim (U%V) 1,lim (U%V) 2,lim (U%V) 3),?_,W_lim _ _,W_lim _ _,W_lim _ _,W_lim _ _⟩
  dsimp only
  have e:lim (U%V) 0+18446744073709551616*lim (U%V) 1+340282366920938463463374607431768211456*lim (U%V) 2+6277101735386680763835789423207666416102355444464034512896*lim (U%V) 3=U%V:=by
    have:=s.r0;have:=s.r1
    unfold lim;omega
  rw [e];exact s
theorem dist4 (g v0 v1 v2 v3:Int):g*(v0+18446744073709551616*v1+340282366920938463463374607431768211456*v2+6277101735386680763835789423207666416102355444464034512896*v3)=g*v0+18446744073709551616*(g*v1)+340282366920938463463374607431768211456*(g*v2)+6277101735386680763835789423207666416102355444464034512896*(g*v3):=by
  rw [Int.mul_add,Int.mul_add,Int.mul_add,Int.mul_left_comm g,Int.mul_left_comm g,Int.mul_left_comm g]
theorem addk4 {v0 v1 v2 v3 y0 y1 y2 y3 y4 d0 d1 d2 d3 d4 c0 c1 c2 c3 c4:Int} (a0:AddR d0 v0 0 y0 c0) (a1:AddR d1 v1 c0 y1 c1) (a2:AddR d2 v2 c1 y2 c2) (a3:AddR d3 v3 c2 y3 c3) (ak:AddR d4 0 c3 y4 c4):y0+18446744073709551616*y1+340282366920938463463374607431768211456*y2+6277101735386680763835789423207666416102355444464034512896*y3+115792089237316195423570985008687907853269984665640564039457584007913129639936*y4+c4*2135987035920910082395021706169552114602704522356652769947041607822219725780640550022962086936576=d0+18446744073709551616*d1+340282366920938463463374607431768211456*d2+6277101735386680763835789423207666416102355444464034512896*d3+115792089237316195423570985008687907853269984665640564039457584007913129639936*d4+(v0+18446744073709551616*v1+340282366920938463463374607431768211456*v2+6277101735386680763835789423207666416102355444464034512896*v3):=by
  have e0:=a0.eq
  have e1:=a1.eq
  have e2:=a2.eq
  have e3:=a3.eq
  have ek:=ak.eq
  rw [cin0] at e0
  rw [cin_of a0.o0 a0.o1] at e1
  rw [cin_of a1.o0 a1.o1] at e2
  rw [cin_of a2.o0 a2.o1] at e3
  rw [cin_of a3.o0 a3.o1] at ek
  omega
theorem guess_ok4 {u0 u1 u2 u3 u4 v0 v1 v2 v3 q r e:Int} (h:DivR u4 u3 v3 q r e) (he:(e !=0)=false) (hv:0<v3) (wu0:W u0) (wu1:W u1) (wu2:W u2) (wu3:W u3) (wu4:W u4) (wv0:W v0) (wv1:W v1) (wv2:W v2) (wv3:W v3):GuessR (u0+18446744073709551616*u1+340282366920938463463374607431768211456*u2+6277101735386680763835789423207666416102355444464034512896*u3+115792089237316195423570985008687907853269984665640564039457584007913129639936*u4) (v0+18446744073709551616*v1+340282366920938463463374607431768211456*v2+6277101735386680763835789423207666416102355444464034512896*v3) q:=by
  have he:e=0:=by simpa using he
  have hlt:u4<v3:=by
    rcases Int.lt_or_le u4 v3 with h' | h'
    · exact h'
    · have:=h.over (by omega) h';omega
  obtain ⟨_,h1,h2,h3,h4,h5⟩:=h.ok hlt
  refine guess_div (p:=6277101735386680763835789423207666416102355444464034512896) (l:=v0+18446744073709551616*v1+340282366920938463463374607431768211456*v2) h1 h3 ⟨h4,h5⟩ (by decide) ?_ ?_ ?_<;>unfold W at* <;>omega
theorem wit_step4 {U V:Int} (h0:0<=U) (h1:U<V*18446744073709551616) (hV:0<V) (hP:V<115792089237316195423570985008687907853269984665640564039457584007913129639936): ∃x:Int×Int×Int×Int×Int×Int,(fun zx=>StepR U V zx.1 (zx.2.1+18446744073709551616*zx.2.2.1+340282366920938463463374607431768211456*zx.2.2.2.1+6277101735386680763835789423207666416102355444464034512896*zx.2.2.2.2.1+115792089237316195423570985008687907853269984665640564039457584007913129639936*zx.2.2.2.2.2)/\W zx.2.1/\W zx.2.2.1/\W zx.2.2.2.1/\W zx.2.2.2.2.1/\W zx.2.2.2.2.2) x:=by
  have s:=wit_q h0 h1 hV
  refine ⟨(U/V,lim (U%V) 0,lim (U%V) 1,lim (U%V) 2,lim (U%V) 3,lim (U%V) 4),?_,W_lim _ _,W_lim _ _,W_lim _ _,W_lim _ _,W_lim _ _⟩
  dsimp only
  have e:lim (U%V) 0+18446744073709551616*lim (U%V) 1+340282366920938463463374607431768211456*lim (U%V) 2+6277101735386680763835789423207666416102355444464034512896*lim (U%V) 3+115792089237316195423570985008687907853269984665640564039457584007913129639936*lim (U%V) 4=U%V:=by
    have:=s.r0;have:=s.r1
    unfold lim;omega
  rw [e];exact s
theorem sub_step {g v h l o s c u br d br' :Int} (m:MulR g v h l) (a:AddR l o 0 s c) (b:SubR u s br d br') (b0:0<=br) (b1:br<=1):d - br' *18446744073709551616 - (h+c)*18446744073709551616=u - g*v - o - br:=by
  have e:=m.eq;have e1:=a.eq;have e2:=b.eq
  rw [cin0] at e1;rw [cin_of b0 b1] at e2;omega
theorem up_limb {c s:Int} (h0:0<=s) (h1:s<=63):c*2^s.toNat=c*2^s.toNat%18446744073709551616+18446744073709551616*(c/2^(64 - s).toNat):=by
  have hp:=pw_pos s.toNat
  have e:c*2^s.toNat/18446744073709551616=c/2^(64 - s).toNat:=by
    rw [←pw2 h0 h1,Int.mul_comm (2^s.toNat)];exact Int.mul_ediv_mul_of_pos_left _ _ hp
  rw [←e];exact (Int.emod_add_mul_ediv _ _).symm
theorem up_W {c l s:Int} (h0:0<=s) (h1:s<=63) (hl:W l):W (c*2^s.toNat%18446744073709551616+l/2^(64 - s).toNat):=by
  have hp:=pw_pos s.toNat
  have hq:=pw_pos (64 - s).toNat
  have hpq:=pw2 h0 h1
  have e:=emod_mul (x:=c) hpq
  have r0:0<=c*2^s.toNat%18446744073709551616:=Int.emod_nonneg _ (by decide)
  have r1:c*2^s.toNat%18446744073709551616<18446744073709551616:=Int.emod_lt_of_pos _ (by decide)
  have b0:0<=l/2^(64 - s).toNat:=Int.ediv_nonneg hl.1 (by omega)
  have b1:l/2^(64 - s).toNat<2^s.toNat:=by rw [Int.ediv_lt_iff_lt_mul hq,hpq];exact hl.2
  generalize c - 2^(64 - s).toNat*(c*2^s.toNat/18446744073709551616)=z at e
  have hz:z+1<=2^(64 - s).toNat:=by
    rcases Int.lt_or_le z (2^(64 - s).toNat) with h | h
    · exact h
    · have:=Int.mul_le_mul_of_nonneg_right h (by omega:0<=(2:Int)^s.toNat)
      rw [Int.mul_comm (2^(64 - s).toNat),hpq] at this;omega
  have:=Int.mul_le_mul_of_nonneg_right hz (by omega:0<=(2:Int)^s.toNat)
  rw [Int.mul_comm (2^(64 - s).toNat),hpq,Int.add_mul] at this
  exact ⟨by omega,by omega⟩
end Go.Sx
namespace Go.Sx
def wDiv (n d:Int):Int×Int×Int:=if d=0 then (0,0,3) else (n/d,n%d,0)
theorem wDiv_R8 {n d:Int} (hn:R8 n) (hd:R4 d):R8 (wDiv n d).1:=by
  unfold wDiv;split
  · exact ⟨by decide,by decide⟩
  · refine ⟨Int.ediv_nonneg hn.1 hd.1,Int.lt_of_le_of_lt (Int.ediv_le_self _ hn.1) hn.2⟩
theorem wDiv_R4 {n d:Int} (hd:R4 d):R4 (wDiv n d).2.1:=by
  unfold wDiv;split
  · exact R4_zero
  · have h:=hd.1
    refine ⟨Int.emod_nonneg _ (by assumption),Int.lt_trans (Int.emod_lt_of_pos _ (by omega)) hd.2⟩
theorem fin3 {f:Int×Int×Int} {v w:Value} {n r e:Int} (h:f=(n,r,e)) (hn:R8 n) (hr:R4 r) (hv:vW n=v) (hw:vI r=w):
    ∃zx:Int×Int×Int,(R8 zx.1/\R4 zx.2.1/\zx=f)/\Value.tuple #[v,w, .int .i64 e]= .tuple #[vW zx.1,vI zx.2.1, .int .i64 zx.2.2]/\True:=
  ⟨(n,r,e),⟨hn,hr,h.symm⟩,by rw [hv,hw],trivial⟩
theorem nrm_s {y:Int} (h:W y) (h0:(y==(0:Int))=false):IntKind.i64.wrap (64 - ((blen y.toNat:Nat):Int))=((nrm y:Nat):Int):=by
  have h0:y≠0:=by simpa using h0
  obtain ⟨_,_,h3,_,h5⟩:=nrm_spec (y:=y) (by have:=h.1;omega) h.2
  rw [wrap_i64 _ (by omega) (by omega),h5]
theorem nrm_0 (y:Int):0<=((nrm y:Nat):Int):=by omega
theorem nrm_63 {y:Int} (h:W y) (h0:(y==(0:Int))=false):((nrm y:Nat):Int)<=63:=by
  have h0:y≠0:=by simpa using h0
  obtain ⟨_,_,h3,_,h5⟩:=nrm_spec (y:=y) (by have:=h.1;omega) h.2
  omega
theorem lims8 {n:Int} (h:R8 n):lim n 0+18446744073709551616*lim n 1+340282366920938463463374607431768211456*lim n 2+6277101735386680763835789423207666416102355444464034512896*lim n 3+115792089237316195423570985008687907853269984665640564039457584007913129639936*lim n 4+2135987035920910082395021706169552114602704522356652769947041607822219725780640550022962086936576*lim n 5+39402006196394479212279040100143613805079739270465446667948293404245721771497210611414266254884915640806627990306816*lim n 6+726838724295606890549323807888004534353641360687318060281490199180639288113397923326191050713763565560762521606266177933534601628614656*lim n 7=n:=by
  have e:=num_vW h
  rw [show num (vW n)=_ from num8 ..] at e;omega
theorem nrm_top {t:Int} (h:W t) (h0:(t==(0:Int))=false): ∃p q:Int,p=2^nrm t/\q=2^(64 - nrm t)/\0<p/\0<q/\p*q=18446744073709551616/\2*p<=18446744073709551616/\9223372036854775808<=t*p/\t/q=0/\
    (2:Int)^(((nrm t:Nat):Int)).toNat=p/\(2:Int)^(64 - ((nrm t:Nat):Int)).toNat=q:=by
  have h0:t≠0:=by simpa using h0
  have ht:0<t:=by have:=h.1;omega
  obtain ⟨h1,h2,h3,h4,h5⟩:=nrm_spec ht h.2
  have hp:=pw_pos (nrm t);have hq:=pw_pos (64 - nrm t)
  refine ⟨_,_,rfl,rfl,hp,hq,h4,?_,h1,?_,by rw [Int.toNat_natCast],by rw [show (64 - ((nrm t:Nat):Int)).toNat=64 - nrm t from by omega]⟩
  · have e:64 - nrm t=(63 - nrm t)+1:=by omega
    have hq2:=pw_pos (63 - nrm t)
    rw [e,Int.pow_succ,←Int.mul_assoc] at h4
    have:(2:Int)^nrm t*1<=2^nrm t*2^(63 - nrm t):=Int.mul_le_mul_of_nonneg_left (by omega) (by omega)
    omega
  · generalize (2:Int)^nrm t=p at *
    generalize (2:Int)^(64 - nrm t)=q at *
    refine Int.ediv_eq_zero_of_lt h.1 ?_
    rcases Int.lt_or_le t q with h | h
    · exact h
    · have:=Int.mul_le_mul_of_nonneg_right h (by omega:0<=p)
      rw [Int.mul_comm q p] at this;omega
theorem chain_step {x V q R Q T R' :Int} (hA:Q*V+R' =T) (hS:StepR (x+18446744073709551616*R') V q R):(q+18446744073709551616*Q)*V+R=x+18446744073709551616*T:=by
  have:=hS.eq
  rw [Int.add_mul,Int.mul_assoc];omega
theorem div_end {Q V R N D p:Int} (h:Q*V+R=N*p) (hV:V=D*p) (r0:0<=R) (r1:R<V) (hp:0<p):N/D=Q/\R=N%D*p/\D≠0:=by
  subst hV
  have e:R=(N - Q*D)*p:=by rw [Int.sub_mul,Int.mul_assoc];omega
  have hD:0<D:=by
    rcases Int.lt_or_le 0 D with h | h
    · exact h
    · have:=Int.mul_le_mul_of_nonneg_right h (by omega:0<=p);omega
  obtain ⟨ρ,hρ⟩: ∃ρ,ρ=N - Q*D:=⟨_,rfl⟩
  rw [←hρ] at e
  have a0:0<=ρ:=by
    rcases Int.lt_or_le ρ 0 with h | h
    · have:=Int.mul_neg_of_neg_of_pos h hp;omega
    · exact h
  have a1:ρ<D:=by
    rcases Int.lt_or_le ρ D with h | h
    · exact h
    · have:=Int.mul_le_mul_of_nonneg_right h (by omega:0<=p);omega
  have hN:N=ρ+Q*D:=by omega
  have e1:N/D=Q:=by rw [hN,Int.add_mul_ediv_right _ _ (by omega),Int.ediv_eq_zero_of_lt a0 a1];omega
  have e2:N%D=ρ:=by rw [hN,Int.add_mul_emod_self_right,Int.emod_eq_of_lt a0 a1]
  exact ⟨e1,by rw [e2,e],by omega⟩
theorem down_or {x y:Int} {s:Int} (h0:0<=s) (h1:s<=63) (hx:W x) (hy:W y):
    IntKind.u64.wrap (((BitVec.ofInt 64 (Int.fdiv x (2^(min (Int.toNat s) 64))) ||| BitVec.ofInt 64 (IntKind.u64.wrap (y*2^(min (Int.toNat (64 - s)) 64))):BitVec 64).toNat:Nat):Int)=x/2^s.toNat+y*2^(64 - s).toNat%18446744073709551616:=by
  have m1:min (Int.toNat s) 64=s.toNat:=Nat.min_eq_left (by omega)
  have m2:min (Int.toNat (64 - s)) 64=(64 - s).toNat:=Nat.min_eq_left (by omega)
  rw [m1,m2,wrap_u64 (y*2^(64 - s).toNat),BitVec.or_comm]
  have hp:=pw_pos s.toNat
  have hq:=pw_pos (64 - s).toNat
  have hpq:=pw2 h0 h1
  have hqp:(2:Int)^(64 - s).toNat*2^s.toNat=18446744073709551616:=by rw [Int.mul_comm];exact hpq
  rw [Int.fdiv_eq_ediv_of_nonneg _ (by omega)]
  have e:=emod_mul (x:=y) hqp
  have r0:0<=y*2^(64 - s).toNat%18446744073709551616:=Int.emod_nonneg _ (by decide)
  have r1:y*2^(64 - s).toNat%18446744073709551616<18446744073709551616:=Int.emod_lt_of_pos _ (by decide)
  have b0:0<=x/2^s.toNat:=Int.ediv_nonneg hx.1 (by omega)
  have b1:x/2^s.toNat<2^(64 - s).toNat:=by rw [Int.ediv_lt_iff_lt_mul hp,hqp];exact hx.2
  rw [e] at r0 r1 ⊢
  have hc:0<=y - 2^s.toNat*(y*2^(64 - s).toNat/18446744073709551616):=by
    rcases Int.lt_or_le (y - 2^s.toNat*(y*2^(64 - s).toNat/18446744073709551616)) 0 with h | h
    · have:=Int.mul_neg_of_neg_of_pos h hq
      omega
    · exact h
  rw [Int.add_comm]
  exact bor_add (64 - s).toNat (by omega) hc b0 b1 r1
theorem down_limb {c p q:Int} (hp:0<p) (hq:0<q) (hpq:p*q=18446744073709551616):c*q=18446744073709551616*(c/p)+c*q%18446744073709551616/\0<=c*q%18446744073709551616/\c*q%18446744073709551616<18446744073709551616:=by
  have e:c*q/18446744073709551616=c/p:=by rw [←hpq];exact Int.mul_ediv_mul_of_pos_left _ _ hq
  rw [←e]
  refine ⟨by omega,by omega,by omega⟩
theorem down_W {x y p q:Int} (hp:0<p) (hq:0<q) (hpq:p*q=18446744073709551616) (hx:W x):W (x/p+y*q%18446744073709551616):=by
  have hqp:q*p=18446744073709551616:=by rw [Int.mul_comm];exact hpq
  have e:=emod_mul (x:=y) hqp
  have r0:0<=y*q%18446744073709551616:=Int.emod_nonneg _ (by decide)
  have r1:y*q%18446744073709551616<18446744073709551616:=Int.emod_lt_of_pos _ (by decide)
  have b0:0<=x/p:=Int.ediv_nonneg hx.1 (by omega)
  have b1:x/p<q:=by rw [Int.ediv_lt_iff_lt_mul hp,hqp];exact hx.2
  generalize y - p*(y*q/18446744073709551616)=z at e
  have hz:z+1<=p:=by
    rcases Int.lt_or_le z p with h | h
    · exact h
    · have:=Int.mul_le_mul_of_nonneg_right h (by omega:0<=q)
      omega
  have:=Int.mul_le_mul_of_nonneg_right hz (by omega:0<=q)
  rw [hpq,Int.add_mul] at this
  exact ⟨by omega,by omega⟩
theorem nn2 {u0 u1:Int} (hu0:W u0) (hu1:W u1):0<=u0+18446744073709551616*u1:=by unfold W at *;omega
theorem nn3 {u0 u1 u2:Int} (hu0:W u0) (hu1:W u1) (hu2:W u2):0<=u0+18446744073709551616*u1+340282366920938463463374607431768211456*u2:=by unfold W at *;omega
theorem nn4 {u0 u1 u2 u3:Int} (hu0:W u0) (hu1:W u1) (hu2:W u2) (hu3:W u3):0<=u0+18446744073709551616*u1+340282366920938463463374607431768211456*u2+6277101735386680763835789423207666416102355444464034512896*u3:=by unfold W at *;omega
theorem nn5 {u0 u1 u2 u3 u4:Int} (hu0:W u0) (hu1:W u1) (hu2:W u2) (hu3:W u3) (hu4:W u4):0<=u0+18446744073709551616*u1+340282366920938463463374607431768211456*u2+6277101735386680763835789423207666416102355444464034512896*u3+115792089237316195423570985008687907853269984665640564039457584007913129639936*u4:=by unfold W at *;omega
theorem norm1 {z0 c0:Int} (h:W c0) (hz:(c0==(0:Int))=false) (wz0:W z0)  (e:z0+18446744073709551616*(c0/2^(64 - ((nrm c0:Nat):Int)).toNat)=(c0)*2^(((nrm c0:Nat):Int)).toNat):
    z0=(c0)*2^nrm c0/\9223372036854775808<=z0/\0<z0:=by
  obtain ⟨p,q,hp',hq',hp,hq,hpq,hp2,ht,h0,e1,e2⟩:=nrm_top h hz
  rw [e1,e2,h0] at e
  rw [←hp']
  have e' :=e
  skip
  unfold W at *
  refine ⟨by omega,by omega,by omega⟩
theorem first1 {N p V x0 x1 x2 x3 x4 x5 x6 x7 x8:Int} (hN:R8 N) (hp:0<p) (hp2:2*p<=18446744073709551616) (wx0:W x0) (wx1:W x1) (wx2:W x2) (wx3:W x3) (wx4:W x4) (wx5:W x5) (wx6:W x6) (wx7:W x7) (wx8:W x8) (e:x0+18446744073709551616*x1+340282366920938463463374607431768211456*x2+6277101735386680763835789423207666416102355444464034512896*x3+115792089237316195423570985008687907853269984665640564039457584007913129639936*x4+2135987035920910082395021706169552114602704522356652769947041607822219725780640550022962086936576*x5+39402006196394479212279040100143613805079739270465446667948293404245721771497210611414266254884915640806627990306816*x6+726838724295606890549323807888004534353641360687318060281490199180639288113397923326191050713763565560762521606266177933534601628614656*x7+13407807929942597099574024998205846127479365820592393377723561443721764030073546976801874298166903427690031858186486050853753882811946569946433649006084096*x8=N*p) (hV:9223372036854775808<=V):x7+18446744073709551616*x8<V*18446744073709551616:=by
  have h:N*p<=13407807929942597099574024998205846127479365820592393377723561443721764030073546976801874298166903427690031858186486050853753882811946569946433649006084095*9223372036854775808:=Int.mul_le_mul (by have:=hN.2;omega) (by omega) (by omega) (by decide)
  rw [←e] at h
  unfold W at *;omega
theorem next1 {x U V q r0 r1:Int} (hS:StepR U V q (r0+18446744073709551616*r1)) (wx:W x) (wr0:W r0) (wr1:W r1) (hV:V<18446744073709551616):x+18446744073709551616*r0=x+18446744073709551616*(r0+18446744073709551616*r1)/\x+18446744073709551616*r0<V*18446744073709551616:=by
  have:=hS.r0;have:=hS.r1
  unfold W at *;constructor<;>omega
theorem rest1 {ρ p q V r0 r1:Int} (hp:0<p) (hq:0<q) (hpq:p*q=18446744073709551616) (hV:V<18446744073709551616) (wr0:W r0) (wr1:W r1) (h:r0+18446744073709551616*r1=ρ*p) (hl:r0+18446744073709551616*r1<V):(r0/p+r1*q%18446744073709551616)=ρ:=by
  have hk:r1=0:=by unfold W at *;omega
  have e:(r0+18446744073709551616*r1)*q=ρ*18446744073709551616:=by rw [h,Int.mul_assoc,hpq]
  rw [Int.add_mul,Int.mul_assoc 18446744073709551616] at e
  have d0:=down_limb (c:=r0) hp hq hpq
  have d1:=down_limb (c:=r1) hp hq hpq
  subst hk
  rw [Int.zero_mul,Int.zero_ediv] at *
  omega
theorem norm2 {z0 z1 c0 c1:Int} (h:W c1) (hz:(c1==(0:Int))=false) (wz0:W z0) (wz1:W z1) (wc0:W c0) (e:z0+18446744073709551616*z1+340282366920938463463374607431768211456*(c1/2^(64 - ((nrm c1:Nat):Int)).toNat)=(c0+18446744073709551616*c1)*2^(((nrm c1:Nat):Int)).toNat):
    z0+18446744073709551616*z1=(c0+18446744073709551616*c1)*2^nrm c1/\170141183460469231731687303715884105728<=z0+18446744073709551616*z1/\0<z1:=by
  obtain ⟨p,q,hp',hq',hp,hq,hpq,hp2,ht,h0,e1,e2⟩:=nrm_top h hz
  rw [e1,e2,h0] at e
  rw [←hp']
  have e' :=e
  rw [Int.add_mul,Int.mul_assoc 18446744073709551616] at e'
  have m0:=Int.mul_nonneg wc0.1 (by omega:0<=p)
  unfold W at *
  refine ⟨by omega,by omega,by omega⟩
theorem first2 {N p V x0 x1 x2 x3 x4 x5 x6 x7 x8:Int} (hN:R8 N) (hp:0<p) (hp2:2*p<=18446744073709551616) (wx0:W x0) (wx1:W x1) (wx2:W x2) (wx3:W x3) (wx4:W x4) (wx5:W x5) (wx6:W x6) (wx7:W x7) (wx8:W x8) (e:x0+18446744073709551616*x1+340282366920938463463374607431768211456*x2+6277101735386680763835789423207666416102355444464034512896*x3+115792089237316195423570985008687907853269984665640564039457584007913129639936*x4+2135987035920910082395021706169552114602704522356652769947041607822219725780640550022962086936576*x5+39402006196394479212279040100143613805079739270465446667948293404245721771497210611414266254884915640806627990306816*x6+726838724295606890549323807888004534353641360687318060281490199180639288113397923326191050713763565560762521606266177933534601628614656*x7+13407807929942597099574024998205846127479365820592393377723561443721764030073546976801874298166903427690031858186486050853753882811946569946433649006084096*x8=N*p) (hV:170141183460469231731687303715884105728<=V):x6+18446744073709551616*x7+340282366920938463463374607431768211456*x8<V*18446744073709551616:=by
  have h:N*p<=13407807929942597099574024998205846127479365820592393377723561443721764030073546976801874298166903427690031858186486050853753882811946569946433649006084095*9223372036854775808:=Int.mul_le_mul (by have:=hN.2;omega) (by omega) (by omega) (by decide)
  rw [←e] at h
  unfold W at *;omega
theorem next2 {x U V q r0 r1 r2:Int} (hS:StepR U V q (r0+18446744073709551616*r1+340282366920938463463374607431768211456*r2)) (wx:W x) (wr0:W r0) (wr1:W r1) (wr2:W r2) (hV:V<340282366920938463463374607431768211456):x+18446744073709551616*r0+340282366920938463463374607431768211456*r1=x+18446744073709551616*(r0+18446744073709551616*r1+340282366920938463463374607431768211456*r2)/\x+18446744073709551616*r0+340282366920938463463374607431768211456*r1<V*18446744073709551616:=by
  have:=hS.r0;have:=hS.r1
  unfold W at *;constructor<;>omega
theorem rest2 {ρ p q V r0 r1 r2:Int} (hp:0<p) (hq:0<q) (hpq:p*q=18446744073709551616) (hV:V<340282366920938463463374607431768211456) (wr0:W r0) (wr1:W r1) (wr2:W r2) (h:r0+18446744073709551616*r1+340282366920938463463374607431768211456*r2=ρ*p) (hl:r0+18446744073709551616*r1+340282366920938463463374607431768211456*r2<V):(r0/p+r1*q%18446744073709551616)+18446744073709551616*(r1/p+r2*q%18446744073709551616)=ρ:=by
  have hk:r2=0:=by unfold W at *;omega
  have e:(r0+18446744073709551616*r1+340282366920938463463374607431768211456*r2)*q=ρ*18446744073709551616:=by rw [h,Int.mul_assoc,hpq]
  rw [Int.add_mul,Int.add_mul,Int.mul_assoc 18446744073709551616,Int.mul_assoc 340282366920938463463374607431768211456] at e
  have d0:=down_limb (c:=r0) hp hq hpq
  have d1:=down_limb (c:=r1) hp hq hpq
  have d2:=down_limb (c:=r2) hp hq hpq
  subst hk
  rw [Int.zero_mul,Int.zero_ediv] at *
  omega
theorem norm3 {z0 z1 z2 c0 c1 c2:Int} (h:W c2) (hz:(c2==(0:Int))=false) (wz0:W z0) (wz1:W z1) (wz2:W z2) (wc0:W c0) (wc1:W c1) (e:z0+18446744073709551616*z1+340282366920938463463374607431768211456*z2+6277101735386680763835789423207666416102355444464034512896*(c2/2^(64 - ((nrm c2:Nat):Int)).toNat)=(c0+18446744073709551616*c1+340282366920938463463374607431768211456*c2)*2^(((nrm c2:Nat):Int)).toNat):
    z0+18446744073709551616*z1+340282366920938463463374607431768211456*z2=(c0+18446744073709551616*c1+340282366920938463463374607431768211456*c2)*2^nrm c2/\3138550867693340381917894711603833208051177722232017256448<=z0+18446744073709551616*z1+340282366920938463463374607431768211456*z2/\0<z2:=by
  obtain ⟨p,q,hp',hq',hp,hq,hpq,hp2,ht,h0,e1,e2⟩:=nrm_top h hz
  rw [e1,e2,h0] at e
  rw [←hp']
  have e' :=e
  rw [Int.add_mul,Int.add_mul,Int.mul_assoc 18446744073709551616,Int.mul_assoc 340282366920938463463374607431768211456] at e'
  have m0:=Int.mul_nonneg wc0.1 (by omega:0<=p)
  have m1:=Int.mul_nonneg wc1.1 (by omega:0<=p)
  unfold W at *
  refine ⟨by omega,by omega,by omega⟩
theorem first3 {N p V x0 x1 x2 x3 x4 x5 x6 x7 x8:Int} (hN:R8 N) (hp:0<p) (hp2:2*p<=18446744073709551616) (wx0:W x0) (wx1:W x1) (wx2:W x2) (wx3:W x3) (wx4:W x4) (wx5:W x5) (wx6:W x6) (wx7:W x7) (wx8:W x8) (e:x0+18446744073709551616*x1+340282366920938463463374607431768211456*x2+6277101735386680763835789423207666416102355444464034512896*x3+115792089237316195423570985008687907853269984665640564039457584007913129639936*x4+2135987035920910082395021706169552114602704522356652769947041607822219725780640550022962086936576*x5+39402006196394479212279040100143613805079739270465446667948293404245721771497210611414266254884915640806627990306816*x6+726838724295606890549323807888004534353641360687318060281490199180639288113397923326191050713763565560762521606266177933534601628614656*x7+13407807929942597099574024998205846127479365820592393377723561443721764030073546976801874298166903427690031858186486050853753882811946569946433649006084096*x8=N*p) (hV:3138550867693340381917894711603833208051177722232017256448<=V):x5+18446744073709551616*x6+340282366920938463463374607431768211456*x7+6277101735386680763835789423207666416102355444464034512896*x8<V*18446744073709551616:=by
  have h:N*p<=13407807929942597099574024998205846127479365820592393377723561443721764030073546976801874298166903427690031858186486050853753882811946569946433649006084095*9223372036854775808:=Int.mul_le_mul (by have:=hN.2;omega) (by omega) (by omega) (by decide)
  rw [←e] at h
  unfold W at *;omega
theorem next3 {x U V q r0 r1 r2 r3:Int} (hS:StepR U V q (r0+18446744073709551616*r1+340282366920938463463374607431768211456*r2+6277101735386680763835789423207666416102355444464034512896*r3)) (wx:W x) (wr0:W r0) (wr1:W r1) (wr2:W r2) (wr3:W r3) (hV:V<6277101735386680763835789423207666416102355444464034512896):x+18446744073709551616*r0+340282366920938463463374607431768211456*r1+6277101735386680763835789423207666416102355444464034512896*r2=x+18446744073709551616*(r0+18446744073709551616*r1+340282366920938463463374607431768211456*r2+6277101735386680763835789423207666416102355444464034512896*r3)/\x+18446744073709551616*r0+340282366920938463463374607431768211456*r1+6277101735386680763835789423207666416102355444464034512896*r2<V*18446744073709551616:=by
  have:=hS.r0;have:=hS.r1
  unfold W at *;constructor<;>omega
theorem rest3 {ρ p q V r0 r1 r2 r3:Int} (hp:0<p) (hq:0<q) (hpq:p*q=18446744073709551616) (hV:V<6277101735386680763835789423207666416102355444464034512896) (wr0:W r0) (wr1:W r1) (wr2:W r2) (wr3:W r3) (h:r0+18446744073709551616*r1+340282366920938463463374607431768211456*r2+6277101735386680763835789423207666416102355444464034512896*r3=ρ*p) (hl:r0+18446744073709551616*r1+340282366920938463463374607431768211456*r2+6277101735386680763835789423207666416102355444464034512896*r3<V):(r0/p+r1*q%18446744073709551616)+18446744073709551616*(r1/p+r2*q%18446744073709551616)+340282366920938463463374607431768211456*(r2/p+r3*q%18446744073709551616)=ρ:=by
  have hk:r3=0:=by unfold W at *;omega
  have e:(r0+18446744073709551616*r1+340282366920938463463374607431768211456*r2+6277101735386680763835789423207666416102355444464034512896*r3)*q=ρ*18446744073709551616:=by rw [h,Int.mul_assoc,hpq]
  rw [Int.add_mul,Int.add_mul,Int.add_mul,Int.mul_assoc 18446744073709551616,Int.mul_assoc 340282366920938463463374607431768211456,Int.mul_assoc 6277101735386680763835789423207666416102355444464034512896] at e
  have d0:=down_limb (c:=r0) hp hq hpq
  have d1:=down_limb (c:=r1) hp hq hpq
  have d2:=down_limb (c:=r2) hp hq hpq
  have d3:=down_limb (c:=r3) hp hq hpq
  subst hk
  rw [Int.zero_mul,Int.zero_ediv] at *
  omega
theorem norm4 {z0 z1 z2 z3 c0 c1 c2 c3:Int} (h:W c3) (hz:(c3==(0:Int))=false) (wz0:W z0) (wz1:W z1) (wz2:W z2) (wz3:W z3) (wc0:W c0) (wc1:W c1) (wc2:W c2) (e:z0+18446744073709551616*z1+340282366920938463463374607431768211456*z2+6277101735386680763835789423207666416102355444464034512896*z3+115792089237316195423570985008687907853269984665640564039457584007913129639936*(c3/2^(64 - ((nrm c3:Nat):Int)).toNat)=(c0+18446744073709551616*c1+340282366920938463463374607431768211456*c2+6277101735386680763835789423207666416102355444464034512896*c3)*2^(((nrm c3:Nat):Int)).toNat):
    z0+18446744073709551616*z1+340282366920938463463374607431768211456*z2+6277101735386680763835789423207666416102355444464034512896*z3=(c0+18446744073709551616*c1+340282366920938463463374607431768211456*c2+6277101735386680763835789423207666416102355444464034512896*c3)*2^nrm c3/\57896044618658097711785492504343953926634992332820282019728792003956564819968<=z0+18446744073709551616*z1+340282366920938463463374607431768211456*z2+6277101735386680763835789423207666416102355444464034512896*z3/\0<z3:=by
  obtain ⟨p,q,hp',hq',hp,hq,hpq,hp2,ht,h0,e1,e2⟩:=nrm_top h hz
  rw [e1,e2,h0] at e
  rw [←hp']
  have e' :=e
  rw [Int.add_mul,Int.add_mul,Int.add_mul,Int.mul_assoc 18446744073709551616,Int.mul_assoc 340282366920938463463374607431768211456,Int.mul_assoc 6277101735386680763835789423207666416102355444464034512896] at e'
  have m0:=Int.mul_nonneg wc0.1 (by omega:0<=p)
  have m1:=Int.mul_nonneg wc1.1 (by omega:0<=p)
  have m2:=Int.mul_nonneg wc2.1 (by omega:0<=p)
  unfold W at *
  refine ⟨by omega,by omega,by omega⟩
theorem first4 {N p V x0 x1 x2 x3 x4 x5 x6 x7 x8:Int} (hN:R8 N) (hp:0<p) (hp2:2*p<=18446744073709551616) (wx0:W x0) (wx1:W x1) (wx2:W x2) (wx3:W x3) (wx4:W x4) (wx5:W x5) (wx6:W x6) (wx7:W x7) (wx8:W x8) (e:x0+18446744073709551616*x1+340282366920938463463374607431768211456*x2+6277101735386680763835789423207666416102355444464034512896*x3+115792089237316195423570985008687907853269984665640564039457584007913129639936*x4+2135987035920910082395021706169552114602704522356652769947041607822219725780640550022962086936576*x5+39402006196394479212279040100143613805079739270465446667948293404245721771497210611414266254884915640806627990306816*x6+726838724295606890549323807888004534353641360687318060281490199180639288113397923326191050713763565560762521606266177933534601628614656*x7+13407807929942597099574024998205846127479365820592393377723561443721764030073546976801874298166903427690031858186486050853753882811946569946433649006084096*x8=N*p) (hV:57896044618658097711785492504343953926634992332820282019728792003956564819968<=V):x4+18446744073709551616*x5+340282366920938463463374607431768211456*x6+6277101735386680763835789423207666416102355444464034512896*x7+115792089237316195423570985008687907853269984665640564039457584007913129639936*x8<V*18446744073709551616:=by
  have h:N*p<=13407807929942597099574024998205846127479365820592393377723561443721764030073546976801874298166903427690031858186486050853753882811946569946433649006084095*9223372036854775808:=Int.mul_le_mul (by have:=hN.2;omega) (by omega) (by omega) (by decide)
  rw [←e] at h
  unfold W at *;omega
theorem next4 {x U V q r0 r1 r2 r3 r4:Int} (hS:StepR U V q (r0+18446744073709551616*r1+340282366920938463463374607431768211456*r2+6277101735386680763835789423207666416102355444464034512896*r3+115792089237316195423570985008687907853269984665640564039457584007913129639936*r4)) (wx:W x) (wr0:W r0) (wr1:W r1) (wr2:W r2) (wr3:W r3) (wr4:W r4) (hV:V<115792089237316195423570985008687907853269984665640564039457584007913129639936):x+18446744073709551616*r0+340282366920938463463374607431768211456*r1+6277101735386680763835789423207666416102355444464034512896*r2+115792089237316195423570985008687907853269984665640564039457584007913129639936*r3=x+18446744073709551616*(r0+18446744073709551616*r1+340282366920938463463374607431768211456*r2+6277101735386680763835789423207666416102355444464034512896*r3+115792089237316195423570985008687907853269984665640564039457584007913129639936*r4)/\x+18446744073709551616*r0+340282366920938463463374607431768211456*r1+6277101735386680763835789423207666416102355444464034512896*r2+115792089237316195423570985008687907853269984665640564039457584007913129639936*r3<V*18446744073709551616:=by
  have:=hS.r0;have:=hS.r1
  unfold W at *;constructor<;>omega
theorem rest4 {ρ p q V r0 r1 r2 r3 r4:Int} (hp:0<p) (hq:0<q) (hpq:p*q=18446744073709551616) (hV:V<115792089237316195423570985008687907853269984665640564039457584007913129639936) (wr0:W r0) (wr1:W r1) (wr2:W r2) (wr3:W r3) (wr4:W r4) (h:r0+18446744073709551616*r1+340282366920938463463374607431768211456*r2+6277101735386680763835789423207666416102355444464034512896*r3+115792089237316195423570985008687907853269984665640564039457584007913129639936*r4=ρ*p) (hl:r0+18446744073709551616*r1+340282366920938463463374607431768211456*r2+6277101735386680763835789423207666416102355444464034512896*r3+115792089237316195423570985008687907853269984665640564039457584007913129639936*r4<V):(r0/p+r1*q%18446744073709551616)+18446744073709551616*(r1/p+r2*q%18446744073709551616)+340282366920938463463374607431768211456*(r2/p+r3*q%18446744073709551616)+6277101735386680763835789423207666416102355444464034512896*(r3/p+r4*q%18446744073709551616)=ρ:=by
  have hk:r4=0:=by unfold W at *;omega
  have e:(r0+18446744073709551616*r1+340282366920938463463374607431768211456*r2+6277101735386680763835789423207666416102355444464034512896*r3+115792089237316195423570985008687907853269984665640564039457584007913129639936*r4)*q=ρ*18446744073709551616:=by rw [h,Int.mul_assoc,hpq]
  rw [Int.add_mul,Int.add_mul,Int.add_mul,Int.add_mul,Int.mul_assoc 18446744073709551616,Int.mul_assoc 340282366920938463463374607431768211456,Int.mul_assoc 6277101735386680763835789423207666416102355444464034512896,Int.mul_assoc 115792089237316195423570985008687907853269984665640564039457584007913129639936] at e
  have d0:=down_limb (c:=r0) hp hq hpq
  have d1:=down_limb (c:=r1) hp hq hpq
  have d2:=down_limb (c:=r2) hp hq hpq
  have d3:=down_limb (c:=r3) hp hq hpq
  have d4:=down_limb (c:=r4) hp hq hpq
  subst hk
  rw [Int.zero_mul,Int.zero_ediv] at *
  omega
theorem wit_up98 {c0 c1 c2 c3 c4 c5 c6 c7 s:Int} (s0:0<=s) (s1:s<=63) (wc0:W c0) (wc1:W c1) (wc2:W c2) (wc3:W c3) (wc4:W c4) (wc5:W c5) (wc6:W c6) (wc7:W c7): ∃x:Int×Int×Int×Int×Int×Int×Int×Int×Int,(fun zx=>zx.1+18446744073709551616*zx.2.1+340282366920938463463374607431768211456*zx.2.2.1+6277101735386680763835789423207666416102355444464034512896*zx.2.2.2.1+115792089237316195423570985008687907853269984665640564039457584007913129639936*zx.2.2.2.2.1+2135987035920910082395021706169552114602704522356652769947041607822219725780640550022962086936576*zx.2.2.2.2.2.1+39402006196394479212279040100143613805079739270465446667948293404245721771497210611414266254884915640806627990306816*zx.2.2.2.2.2.2.1+726838724295606890549323807888004534353641360687318060281490199180639288113397923326191050713763565560762521606266177933534601628614656*zx.2.2.2.2.2.2.2.1+13407807929942597099574024998205846127479365820592393377723561443721764030073546976801874298166903427690031858186486050853753882811946569946433649006084096*zx.2.2.2.2.2.2.2.2=(c0+18446744073709551616*c1+340282366920938463463374607431768211456*c2+6277101735386680763835789423207666416102355444464034512896*c3+115792089237316195423570985008687907853269984665640564039457584007913129639936*c4+2135987035920910082395021706169552114602704522356652769947041607822219725780640550022962086936576*c5+39402006196394479212279040100143613805079739270465446667948293404245721771497210611414266254884915640806627990306816*c6+726838724295606890549323807888004534353641360687318060281490199180639288113397923326191050713763565560762521606266177933534601628614656*c7)*2^s.toNat/\W zx.1/\W zx.2.1/\W zx.2.2.1/\W zx.2.2.2.1/\W zx.2.2.2.2.1/\W zx.2.2.2.2.2.1/\W zx.2.2.2.2.2.2.1/\W zx.2.2.2.2.2.2.2.1/\W zx.2.2.2.2.2.2.2.2) x:=by
  have W0:W 0:=by unfold W;decide
  refine ⟨((c0*2^s.toNat%18446744073709551616+0/2^(64 - s).toNat),(c1*2^s.toNat%18446744073709551616+c0/2^(64 - s).toNat),(c2*2^s.toNat%18446744073709551616+c1/2^(64 - s).toNat),(c3*2^s.toNat%18446744073709551616+c2/2^(64 - s).toNat),(c4*2^s.toNat%18446744073709551616+c3/2^(64 - s).toNat),(c5*2^s.toNat%18446744073709551616+c4/2^(64 - s).toNat),(c6*2^s.toNat%18446744073709551616+c5/2^(64 - s).toNat),(c7*2^s.toNat%18446744073709551616+c6/2^(64 - s).toNat),(0*2^s.toNat%18446744073709551616+c7/2^(64 - s).toNat)),?_,up_W s0 s1 W0,up_W s0 s1 wc0,up_W s0 s1 wc1,up_W s0 s1 wc2,up_W s0 s1 wc3,up_W s0 s1 wc4,up_W s0 s1 wc5,up_W s0 s1 wc6,up_W s0 s1 wc7⟩
  try dsimp only
  have f0:=up_limb (c:=c0) s0 s1
  have f1:=up_limb (c:=c1) s0 s1
  have f2:=up_limb (c:=c2) s0 s1
  have f3:=up_limb (c:=c3) s0 s1
  have f4:=up_limb (c:=c4) s0 s1
  have f5:=up_limb (c:=c5) s0 s1
  have f6:=up_limb (c:=c6) s0 s1
  have f7:=up_limb (c:=c7) s0 s1
  generalize (2:Int)^s.toNat=p at *
  generalize (2:Int)^(64 - s).toNat=q at *
  rw [Int.add_mul,Int.add_mul,Int.add_mul,Int.add_mul,Int.add_mul,Int.add_mul,Int.add_mul,Int.mul_assoc 18446744073709551616,Int.mul_assoc 340282366920938463463374607431768211456,Int.mul_assoc 6277101735386680763835789423207666416102355444464034512896,Int.mul_assoc 115792089237316195423570985008687907853269984665640564039457584007913129639936,Int.mul_assoc 2135987035920910082395021706169552114602704522356652769947041607822219725780640550022962086936576,Int.mul_assoc 39402006196394479212279040100143613805079739270465446667948293404245721771497210611414266254884915640806627990306816,Int.mul_assoc 726838724295606890549323807888004534353641360687318060281490199180639288113397923326191050713763565560762521606266177933534601628614656]
  have z0:=Int.zero_ediv q
  omega
theorem wit_up1 {c0 s:Int} (s0:0<=s) (s1:s<=63) (wc0:W c0): ∃x:Int,(fun zx=>zx+18446744073709551616*(c0/2^(64 - s).toNat)=(c0)*2^s.toNat/\W zx) x:=by
  have W0:W 0:=by unfold W;decide
  refine ⟨((c0*2^s.toNat%18446744073709551616+0/2^(64 - s).toNat)),?_,up_W s0 s1 W0⟩
  try dsimp only
  have f0:=up_limb (c:=c0) s0 s1
  generalize (2:Int)^s.toNat=p at *
  generalize (2:Int)^(64 - s).toNat=q at *
  have z0:=Int.zero_ediv q
  omega
theorem wit_up2 {c0 c1 s:Int} (s0:0<=s) (s1:s<=63) (wc0:W c0) (wc1:W c1): ∃x:Int×Int,(fun zx=>zx.1+18446744073709551616*zx.2+340282366920938463463374607431768211456*(c1/2^(64 - s).toNat)=(c0+18446744073709551616*c1)*2^s.toNat/\W zx.1/\W zx.2) x:=by
  have W0:W 0:=by unfold W;decide
  refine ⟨((c0*2^s.toNat%18446744073709551616+0/2^(64 - s).toNat),(c1*2^s.toNat%18446744073709551616+c0/2^(64 - s).toNat)),?_,up_W s0 s1 W0,up_W s0 s1 wc0⟩
  try dsimp only
  have f0:=up_limb (c:=c0) s0 s1
  have f1:=up_limb (c:=c1) s0 s1
  generalize (2:Int)^s.toNat=p at *
  generalize (2:Int)^(64 - s).toNat=q at *
  rw [Int.add_mul,Int.mul_assoc 18446744073709551616]
  have z0:=Int.zero_ediv q
  omega
theorem wit_up3 {c0 c1 c2 s:Int} (s0:0<=s) (s1:s<=63) (wc0:W c0) (wc1:W c1) (wc2:W c2): ∃x:Int×Int×Int,(fun zx=>zx.1+18446744073709551616*zx.2.1+340282366920938463463374607431768211456*zx.2.2+6277101735386680763835789423207666416102355444464034512896*(c2/2^(64 - s).toNat)=(c0+18446744073709551616*c1+340282366920938463463374607431768211456*c2)*2^s.toNat/\W zx.1/\W zx.2.1/\W zx.2.2) x:=by
  have W0:W 0:=by unfold W;decide
  refine ⟨((c0*2^s.toNat%18446744073709551616+0/2^(64 - s).toNat),(c1*2^s.toNat%18446744073709551616+c0/2^(64 - s).toNat),(c2*2^s.toNat%18446744073709551616+c1/2^(64 - s).toNat)),?_,up_W s0 s1 W0,up_W s0 s1 wc0,up_W s0 s1 wc1⟩
  try dsimp only
  have f0:=up_limb (c:=c0) s0 s1
  have f1:=up_limb (c:=c1) s0 s1
  have f2:=up_limb (c:=c2) s0 s1
  generalize (2:Int)^s.toNat=p at *
  generalize (2:Int)^(64 - s).toNat=q at *
  rw [Int.add_mul,Int.add_mul,Int.mul_assoc 18446744073709551616,Int.mul_assoc 340282366920938463463374607431768211456]
  have z0:=Int.zero_ediv q
  omega
theorem wit_up4 {c0 c1 c2 c3 s:Int} (s0:0<=s) (s1:s<=63) (wc0:W c0) (wc1:W c1) (wc2:W c2) (wc3:W c3): ∃x:Int×Int×Int×Int,(fun zx=>zx.1+18446744073709551616*zx.2.1+340282366920938463463374607431768211456*zx.2.2.1+6277101735386680763835789423207666416102355444464034512896*zx.2.2.2+115792089237316195423570985008687907853269984665640564039457584007913129639936*(c3/2^(64 - s).toNat)=(c0+18446744073709551616*c1+340282366920938463463374607431768211456*c2+6277101735386680763835789423207666416102355444464034512896*c3)*2^s.toNat/\W zx.1/\W zx.2.1/\W zx.2.2.1/\W zx.2.2.2) x:=by
  have W0:W 0:=by unfold W;decide
  refine ⟨((c0*2^s.toNat%18446744073709551616+0/2^(64 - s).toNat),(c1*2^s.toNat%18446744073709551616+c0/2^(64 - s).toNat),(c2*2^s.toNat%18446744073709551616+c1/2^(64 - s).toNat),(c3*2^s.toNat%18446744073709551616+c2/2^(64 - s).toNat)),?_,up_W s0 s1 W0,up_W s0 s1 wc0,up_W s0 s1 wc1,up_W s0 s1 wc2⟩
  try dsimp only
  have f0:=up_limb (c:=c0) s0 s1
  have f1:=up_limb (c:=c1) s0 s1
  have f2:=up_limb (c:=c2) s0 s1
  have f3:=up_limb (c:=c3) s0 s1
  generalize (2:Int)^s.toNat=p at *
  generalize (2:Int)^(64 - s).toNat=q at *
  rw [Int.add_mul,Int.add_mul,Int.add_mul,Int.mul_assoc 18446744073709551616,Int.mul_assoc 340282366920938463463374607431768211456,Int.mul_assoc 6277101735386680763835789423207666416102355444464034512896]
  have z0:=Int.zero_ediv q
  omega
end Go.Sx
namespace Go.Sx
theorem run_part1 {P:Program} {e:TypeId} {cs:Array Value} {off:Nat} {v:Value} (w:World) (ha: ∀w,(isAgg e).run P w= .ok false w) (h:cs[off]? =some v):(part e cs off).run P w= .ok v w:=by
  simp [part,Sem.run_bind,ha,h]
theorem eq_arr4 {P:Program} {t e:TypeId} {k:IntKind} (hu:P.underlying t=some (.array 4 e)) (he:P.underlying e=some (.int k)) (ha: ∀w,(isAgg e).run P w= .ok false w) (hs: ∀w,(sizeOf e).run P w= .ok 1 w) (x0 x1 x2 x3 y0 y1 y2 y3:Int) (w:World):
    (Op.equalIn 10000 t (.agg #[.int k x0, .int k x1, .int k x2, .int k x3]) (.agg #[.int k y0, .int k y1, .int k y2, .int k y3])).run P w= .ok (x0==y0 && (x1==y1 && (x2==y2 && x3==y3))) w:=by
  have hi: ∀a b,(Op.equalIn 9999 e (.int k a) (.int k b)).run P w= .ok (a==b) w:=fun a b=>run_equalIn_int w 9998 e k k a b he
  rw [show (10000:Nat)=9999+1 from rfl,Op.equalIn]
  simp only [Sem.run_bind,run_underlying hu,Result.andThen_ok,hs]
  simp only [Std.Legacy.Range.forIn_eq_forIn_range',Std.Legacy.Range.size,Nat.sub_zero,Nat.add_sub_cancel,Nat.div_one,List.range'_succ,List.range'_zero,List.forIn_cons,List.forIn_nil]
  have p0: ∀ (a b c d:Value) (w:World),(part e #[a,b,c,d] (0*1)).run P w= .ok a w:=fun a b c d w=>run_part1 w ha rfl
  have p1: ∀ (a b c d:Value) (w:World),(part e #[a,b,c,d] ((0+1)*1)).run P w= .ok b w:=fun a b c d w=>run_part1 w ha rfl
  have p2: ∀ (a b c d:Value) (w:World),(part e #[a,b,c,d] ((0+1+1)*1)).run P w= .ok c w:=fun a b c d w=>run_part1 w ha rfl
  have p3: ∀ (a b c d:Value) (w:World),(part e #[a,b,c,d] ((0+1+1+1)*1)).run P w= .ok d w:=fun a b c d w=>run_part1 w ha rfl
  simp only [Sem.run_bind,p0,p1,p2,p3,Result.andThen_ok,hi]
  cases h0:x0==y0<;>cases h1:x1==y1<;>cases h2:x2==y2<;>cases h3:x3==y3<;>
    simp [Sem.run_bind,p0,p1,p2,p3,hi,h0,h1,h2,h3]
theorem lim_eq4 (a b:Int):(lim a 0==lim b 0 && (lim a 1==lim b 1 && (lim a 2==lim b 2 && lim a 3==lim b 3)))=(num (vI a)==num (vI b)):=by
  rw [lims a,lims b]
  have:=W_lim a 0;have:=W_lim a 1;have:=W_lim a 2;have:=W_lim a 3;have:=W_lim b 0;have:=W_lim b 1;have:=W_lim b 2;have:=W_lim b 3
  unfold W at *
  rw [Bool.eq_iff_iff]
  simp only [Bool.and_eq_true,beq_iff_eq]
  omega
section
variable {P:Program} {t e:TypeId} (hg:P.eqGuardType P.depth t=false) (he:P.underlying e=some (.int .u64)) (ha: ∀w,(isAgg e).run P w= .ok false w) (hs: ∀w,(sizeOf e).run P w= .ok 1 w)
include hg he ha hs
theorem xeq4 (hu:P.underlying t=some (.array 4 e)) (a b:Int):PureRun P (xBin .eql t (vI a) (vI b)) (.bool (num (vI a)==num (vI b))):=by
  intro w
  have h:=eq_arr4 hu he ha hs (lim a 0) (lim a 1) (lim a 2) (lim a 3) (lim b 0) (lim b 1) (lim b 2) (lim b 3) w
  rw [lim_eq4] at h
  have g:(eqGuard .eql t (.const (vI a)) (.const (vI b)) (vI a) (vI b)).run P w= .ok () w:=run_eqGuard_agg (w:=w) .eql t _ _ _ _ hg
  have q:(binOp .eql t (vI a) (vI b)).run P w= .ok (.bool (num (vI a)==num (vI b))) w:=by
    show (binOp .eql t (.agg _) (.agg _)).run P w=_
    rw [run_eql_struct,h];rfl
  simp [xBin,Sem.run_bind,g,q]
theorem xne4 (hu:P.underlying t=some (.array 4 e)) (a b:Int):PureRun P (xBin .neq t (vI a) (vI b)) (.bool (num (vI a) !=num (vI b))):=by
  intro w
  have h:=eq_arr4 hu he ha hs (lim a 0) (lim a 1) (lim a 2) (lim a 3) (lim b 0) (lim b 1) (lim b 2) (lim b 3) w
  rw [lim_eq4] at h
  have g:(eqGuard .neq t (.const (vI a)) (.const (vI b)) (vI a) (vI b)).run P w= .ok () w:=run_eqGuard_agg (w:=w) .neq t _ _ _ _ hg
  have q:(binOp .neq t (vI a) (vI b)).run P w= .ok (.bool (num (vI a) !=num (vI b))) w:=by
    show (binOp .neq t (.agg _) (.agg _)).run P w=_
    simp only [binOp,Op.equal,Op.maxDepth,Sem.run_bind,h];rfl
  simp [xBin,Sem.run_bind,g,q]
end
def f_eq:List Value->Value:=fun vs=> .bool (num (varg vs 0)==num (varg vs 1))
def f_ne:List Value->Value:=fun vs=> .bool (num (varg vs 0) !=num (varg vs 1))
end Go.Sx
namespace Go.Sx
def wNar (w:Int):Int×Int:=if w<115792089237316195423570985008687907853269984665640564039457584007913129639936 then (w,0) else (0,2)
theorem wNar_R {w:Int} (h:R8 w):R4 (wNar w).1:=by
  unfold wNar;split
  · exact ⟨h.1,by assumption⟩
  · exact R4_zero
theorem orz {a b:Int} (ha:W a) (hb:W b):IntKind.u64.wrap (((BitVec.ofInt 64 a ||| BitVec.ofInt 64 b:BitVec 64).toNat:Nat):Int)=0↔a=0/\b=0:=by
  obtain ⟨a,rfl⟩:=Int.eq_ofNat_of_zero_le ha.1
  obtain ⟨b,rfl⟩:=Int.eq_ofNat_of_zero_le hb.1
  have a1:a<2^64:=by have:=ha.2;omega
  have b1:b<2^64:=by have:=hb.2;omega
  simp only [BitVec.toNat_or,BitVec.ofInt_natCast,BitVec.toNat_ofNat]
  rw [Nat.mod_eq_of_lt a1,Nat.mod_eq_of_lt b1,wrap_u64]
  have:=Nat.or_lt_two_pow a1 b1
  have e:= @Nat.or_eq_zero_iff a b
  omega
theorem narrow_z {w:Int}:(IntKind.u64.wrap (((BitVec.ofInt 64 (IntKind.u64.wrap (((BitVec.ofInt 64 (IntKind.u64.wrap (((BitVec.ofInt 64 (lim w 4) ||| BitVec.ofInt 64 (lim w 5):BitVec 64).toNat:Nat):Int)) ||| BitVec.ofInt 64 (lim w 6):BitVec 64).toNat:Nat):Int)) ||| BitVec.ofInt 64 (lim w 7):BitVec 64).toNat:Nat):Int)=0)↔lim w 4=0/\lim w 5=0/\lim w 6=0/\lim w 7=0:=by
  rw [orz (W_wrap _) (W_lim _ _),orz (W_wrap _) (W_lim _ _),orz (W_lim _ _) (W_lim _ _)]
  constructor
  · rintro ⟨⟨⟨h4,h5⟩,h6⟩,h7⟩;exact ⟨h4,h5,h6,h7⟩
  · rintro ⟨h4,h5,h6,h7⟩;exact ⟨⟨⟨h4,h5⟩,h6⟩,h7⟩
theorem narrow_lt {w:Int} (h:R8 w):(lim w 4=0/\lim w 5=0/\lim w 6=0/\lim w 7=0)↔w<115792089237316195423570985008687907853269984665640564039457584007913129639936:=by
  rw [lim4,lim5,lim6,lim7];unfold R8 at h;omega
theorem narrow_ov {w:Int} (h:R8 w) (hc:(IntKind.u64.wrap (((BitVec.ofInt 64 (IntKind.u64.wrap (((BitVec.ofInt 64 (IntKind.u64.wrap (((BitVec.ofInt 64 (lim w 4) ||| BitVec.ofInt 64 (lim w 5):BitVec 64).toNat:Nat):Int)) ||| BitVec.ofInt 64 (lim w 6):BitVec 64).toNat:Nat):Int)) ||| BitVec.ofInt 64 (lim w 7):BitVec 64).toNat:Nat):Int) !=(0:Int))=true):wNar (num (vW w))=(0,2):=by
  have hc: ¬_:=fun h0=>(by simpa using hc: ¬_=(0:Int)) (narrow_z.2 ((narrow_lt h).2 h0))
  rw [num_vW h];unfold wNar;rw [if_neg hc]
theorem narrow_ok {w:Int} (h:R8 w) (hc:(IntKind.u64.wrap (((BitVec.ofInt 64 (IntKind.u64.wrap (((BitVec.ofInt 64 (IntKind.u64.wrap (((BitVec.ofInt 64 (lim w 4) ||| BitVec.ofInt 64 (lim w 5):BitVec 64).toNat:Nat):Int)) ||| BitVec.ofInt 64 (lim w 6):BitVec 64).toNat:Nat):Int)) ||| BitVec.ofInt 64 (lim w 7):BitVec 64).toNat:Nat):Int) !=(0:Int))=false):wNar (num (vW w))=(w,0)/\R4 w:=by
  have hc:=(narrow_lt h).1 (narrow_z.1 (by simpa using hc))
  exact ⟨by rw [num_vW h];unfold wNar;rw [if_pos hc],h.1,hc⟩
def wMulDiv (a b d:Int):Int×Int:=if d=0 then (0,3) else wNar (a*b/d)
def wMulDivUp (a b d:Int):Int×Int:=if d=0 then (0,3) else if (wNar (a*b/d)).2≠0∨a*b%d=0 then wNar (a*b/d) else hAdd (a*b/d) 1
theorem wMulDiv_R {a b d:Int} (ha:R4 a) (hb:R4 b) (hd:R4 d):R4 (wMulDiv a b d).1:=by
  unfold wMulDiv;split
  · exact R4_zero
  · have h:=wDiv_R8 (prod_R ha hb) hd
    unfold wDiv at h
    rw [if_neg (by assumption)] at h
    exact wNar_R h
section
variable {a b d:Int} {x:Int×Int×Int} {y z:Int×Int}
theorem md_err {p:Int} (hp:p=a*b) (hx:x=wDiv p d) (hc:(x.2.2 !=0)=true):wMulDiv a b d=(0,x.2.2)/\wMulDivUp a b d=(0,x.2.2):=by
  have hc:=nz_true hc
  subst hx;unfold wDiv at hc ⊢;unfold wMulDiv wMulDivUp
  split
  · exact ⟨rfl,rfl⟩
  · rename_i h;rw [if_neg h] at hc;exact absurd rfl hc
theorem md_ok {p:Int} (hp:p=a*b) (hx:x=wDiv p d) (hc:(x.2.2 !=0)=false) (hy:y=wNar x.1):wMulDiv a b d=(y.1,y.2):=by
  have hc:=nz_false hc
  subst hp;subst hx;subst hy;unfold wDiv at hc ⊢;unfold wMulDiv
  split
  · rename_i h;rw [if_pos h] at hc;cases hc
  · rfl
end
end Go.Sx
namespace Go.Sx
inductive Row where
  | nil
  | mk (b:Nat) (vs ex:List Value)
def sv:Row->Value
  | .nil=> .slice none 0 0
  | .mk b vs ex=> .slice (some ⟨b,0,none⟩) vs.length (vs.length+ex.length)
def ss (e:TypeId):Row->Slot
  | .nil=> .free
  | .mk b vs ex=> .blk b (.cells (vs++ex).toArray e (0,0))
def vals:Row->List Value
  | .nil=> []
  | .mk _ vs _=>vs
def rvals (v:Value) (s:Slot):List Value:=(scells s).toList.take (vlen v)
theorem rvals_eq (r:Row) (e:TypeId):rvals (sv r) (ss e r)=vals r:=by
  cases r with
  | nil=>rfl
  | mk b vs ex=>simp [rvals,sv,ss,vals,vlen,scells]
theorem vlen_sv (r:Row):vlen (sv r)=(vals r).length:=by cases r<;>rfl
structure SlT (P:Program) (t e:TypeId) (z:Value):Prop where
  und:P.underlying t=some (.slice e)
  elem:P.elem t=e
  info: ∃i,P.info? e=some i/\i.zero=some z/\i.size=1/\i.bytes<=4096
  zc:z.cells= #[z]
theorem SlT.of {P:Program} {t e:TypeId} {z:Value} (h1:P.underlying t=some (.slice e)) (h2:P.elem t=e) (h3:(P.info? e).bind (·.zero)=some z) (h4:(P.info? e).map (fun i=>(i.size,Nat.ble i.bytes 4096))=some (1,true)) (h5:z.cells= #[z]):SlT P t e z:=by
  refine ⟨h1,h2,?_,h5⟩
  cases hi:P.info? e with
  | none=>rw [hi] at h3;cases h3
  | some i =>
    rw [hi] at h3 h4
    simp at h3 h4
    exact ⟨i,rfl,h3,h4.1,h4.2⟩
theorem SlT.size {P:Program} {t e:TypeId} {z:Value} (h:SlT P t e z) (w:World):(sizeOf e).run P w= .ok 1 w:=by
  obtain ⟨i,hi,hz,hs,hb⟩:=h.info
  simp [sizeOf,typeInfo,hi,hs]
def f_len:List Value->Value:=fun vs=> .int .i64 ((vlen (varg vs 0):Nat):Int)
theorem xlen {P:Program} {t e:TypeId} {z:Value} (h:SlT P t e z) (ty:TypeId) (r:Row):PureRun P (do pure (.value (←Builtin.len_ #[t] ty #[sv r]))) (.int .i64 ((vlen (sv r):Nat):Int)):=by
  intro w
  cases r<;>simp [Builtin.len_,run_underlying h.und,sv,vlen,goInt]
def f_idx:List Value->Value:=fun vs=> .pointer (some ⟨vblk (varg vs 0),(ci (varg vs 1)).toNat,none⟩)
theorem xidx {P:Program} {t e:TypeId} {z:Value} (h:SlT P t e z) (r:Row) (k:IntKind) (i:Int) (h0:0<=i) (h1:i<((vals r).length:Nat)):
    PureRun P (do pure (.value (←Instr.indexAt t (sv r) (.int k i)))) (.pointer (some ⟨vblk (sv r),i.toNat,none⟩)):=by
  intro w
  cases r with
  | nil=>simp [vals] at h1;omega
  | mk b vs ex =>
    have hc:0<=i/\i<(vs.length:Int):=⟨h0,h1⟩
    simp [Instr.indexAt,run_underlying h.und,sv,asIntOf,hc,h.size w,vblk,Addr.add]
    omega
theorem xget {P : Program} {e : TypeId} (r : Row) (te : TypeId) (ha : ∀ w, (isAgg te).run P w = .ok false w) (n : Nat) (x : Value) (hx : (vals r)[n]? = some x) :
    OpT P (do pure (.value (←Instr.loadAt te (.pointer (some ⟨vblk (sv r),n,none⟩))))) [ss e r] Unit (fun _=>x) (fun _=> [ss e r]) (fun _=>True):=by
  intro R w h
  cases r with
  | nil=>simp [vals] at hx
  | mk b vs ex =>
    have hb:=h.block (i:=0) rfl
    have hc:w.cell? ⟨b,n,none⟩=some x:=by
      have hn:n<vs.length:=by
        rcases Nat.lt_or_ge n vs.length with h | h
        · exact h
        · simp [vals,List.getElem?_eq_none h] at hx
      simp only [vals] at hx
      simp [World.cell?,hb,List.getElem?_append_left hn,hx]
    refine ⟨(),w,trivial, .inl ?_,h,Ext.refl w⟩
    simp [Instr.loadAt,Instr.sureAddr,vblk,sv,loadVar,Sem.run_bind,ha,hc]
def sset (s:Slot) (n:Nat) (v:Value):Slot:=match s with | .blk b (.cells cs t f)=> .blk b (.cells (cs.setIfInBounds n v) t f) | s=>s
def Row.set:Row->Nat->Value->Row
  | .nil,_,_=> .nil
  | .mk b vs ex,n,v=> .mk b (vs.set n v) ex
theorem sv_set (r:Row) (n:Nat) (v:Value):sv (r.set n v)=sv r:=by cases r<;>simp [Row.set,sv]
theorem vals_set (r:Row) (n:Nat) (v:Value):vals (r.set n v)=(vals r).set n v:=by cases r<;>simp [Row.set,vals]
theorem ss_set (r:Row) (e:TypeId) (n:Nat) (v:Value) (h:n<(vals r).length):sset (ss e r) n v=ss e (r.set n v):=by
  cases r with
  | nil=>rfl
  | mk b vs ex =>
    simp only [vals] at h
    simp [sset,ss,Row.set,List.set_append,h]
theorem xput {P:Program} {e:TypeId} (r:Row) (te:TypeId) (hs: ∀w,(sizeOf te).run P w= .ok 1 w) (n:Nat) (v:Value) (h1:v.cells= #[v]) (h2:v.oneCell' =true) (hn:n<(vals r).length):
    OpT P (do Instr.storeAt te (.pointer (some ⟨vblk (sv r),n,none⟩)) v;pure .skip) [ss e r] Unit (fun _=>undef) (fun _=> [sset (ss e r) n v]) (fun _=>True):=by
  intro R w h
  cases r with
  | nil=>simp [vals] at hn
  | mk b vs ex =>
    simp only [vals] at hn
    have hb:=h.block (i:=0) rfl
    have hc:w.cell? ⟨b,n,none⟩=some vs[n]:=by
      simp [World.cell?,hb,List.getElem?_append_left hn,hn]
    have hf:w.frozen? ⟨b,n,none⟩=false:=frozen_of_row w b n _ e hb
    have hst:(store ⟨b,n,none⟩ v).run P w= .ok () (w.setCell ⟨b,n,none⟩ v):=by rw [run_store P w _ v _ h2,hc];simp [hf]
    have hh:=heap_setCell_same w b n _ e v hb
    refine ⟨(),w.setCell ⟨b,n,none⟩ v,trivial, .inr ⟨?_,rfl⟩,?_,?_⟩
    · simp [Instr.storeAt,Instr.sureAddr,vblk,sv,storeVar,Sem.run_bind,hs,h1,storeCells,Addr.add,hst]
    · have:=h.set (i:=0) (b:=b) rfl hh (fun c hc=>heap_setCell_other w _ c v hc)
      refine (congrArg (fun H=>Own H R (w.setCell ⟨b,n,none⟩ v)) ?_).mp this
      funext i
      cases i<;>rfl
    · exact ⟨rfl,rfl,rfl,by simp,by first | exact Nat.le_refl _ | exact Nat.le_succ _ | simp⟩
theorem xappend {P : Program} {t e : TypeId} {z : Value} (h : SlT P t e z) (ty : TypeId) (r : Row) (hl : (vals r).length <= 1073741824) (c m : Nat) (x : Value) (h2 : x.oneCell' = true) :
    OpT P (do pure (.value (←Builtin.append_ #[t,t] ty #[sv r, .slice (some ⟨c,0,none⟩) 1 m]))) [ss e r, .blk c (.cells #[x] e (0,0))] Row sv (fun y=> [ss e y, .blk c (.cells #[x] e (0,0))]) (fun y=>vals y=vals r++ [x]):=by
  intro R w h0
  obtain ⟨i,hi,hz,hs,hby⟩:=h.info
  have hc:=h0.block (i:=1) rfl
  have hnews: ∀j u,[x][j]? =some u->w.cell? ((⟨c,0,none⟩:Addr).add j)=some u:=by
    intro j u hu
    have hj:j=0:=by
      cases j with
      | zero=>rfl
      | succ j=>simp at hu
    subst hj
    simp at hu;subst hu
    simp [World.cell?,Addr.add,hc]
  have upd1: ∀ (s:Slot),upd (ofList [ss e r, .blk c (.cells #[x] e (0,0))]) 0 s=ofList [s, .blk c (.cells #[x] e (0,0))]:=by
    intro s;funext i
    cases i with
    | zero=>rfl
    | succ i=>cases i<;>rfl
  have fresh: ∀ (o:Obj),Own (ofList [.blk w.heap.size o, .blk c (.cells #[x] e (0,0))]) R (w.drew.alloc o):=by
    intro o
    have:=h0.new (w' :=w.drew.alloc o) (i:=0) (o:=o) (heap_alloc_new w.drew o) (fun c hc=>heap_alloc_old w.drew o c hc)
    rw [upd1] at this
    exact this
  have ext: ∀ (o:Obj),Ext w (w.drew.alloc o):=fun o=>⟨rfl,rfl,rfl,by simp,by first | exact Nat.le_refl _ | exact Nat.le_succ _ | simp⟩
  have zl: ∀n,∃ex:List Value,Builtin.zeroCells z.cells n=ex.toArray/\ex.length=n:=by
    intro n
    refine ⟨(Builtin.zeroCells z.cells n).toList,by simp,?_⟩
    rw [Array.length_toList,size_zeroCells,h.zc];simp
  cases r with
  | nil =>
    have hr:=run_append_nil (P:=P) w t ty e i z h.und hi hz ⟨c,0,none⟩ 1 m [x] (by simp [hs]) hnews (by decide) (by decide) (by omega)
    obtain ⟨ex,he,hx⟩:=zl (grownCap w 1 0 e - 1)
    have hge:=grownCap_ge w 1 0 e
    rw [he] at hr
    refine ⟨.mk w.heap.size [x] ex,_,rfl, .inl ?_,fresh _,ext _⟩
    · simp only [sv]
      show (Sem.run P (Builtin.append_ _ _ _>>=_) w)=_
      rw [Sem.run_bind,hr]
      have:1+ex.length=grownCap w 1 0 e:=by omega
      simp [this]
  | mk b vs ex =>
    simp only [vals] at hl
    have hb:=h0.block (i:=0) rfl
    by_cases hroom:vs.length+1<=vs.length+ex.length
    · have hcell: ∀j,j< [x].length->(w.cell? ⟨b,0+vs.length*i.size+j,none⟩).isSome=true:=by
        intro j hj
        have hj:j=0:=by simp at hj;exact hj
        subst hj
        rw [hs]
        have:vs.length<(vs++ex).length:=by simp;omega
        simp [World.cell?,hb,List.getElem?_eq_getElem this]
      have hr:=run_append_room_cells (P:=P) w t ty e i h.und hi b 0 vs.length (vs.length+ex.length) ⟨c,0,none⟩ 1 m [x] (by simp [hs]) hnews (by simpa using h2) hroom hcell (fun j hj=>frozen_of_row w b _ _ e hb)
      rw [hs,Nat.mul_one,Nat.zero_add] at hr
      cases ex with
      | nil=>exact absurd hroom (by simp)
      | cons e0 ex =>
        have hh:=heap_setCell_same w b vs.length _ e x hb
        have hset:((vs++e0::ex).toArray.setIfInBounds vs.length x)=(vs++ [x]++ex).toArray:=by simp
        rw [hset] at hh
        refine ⟨.mk b (vs++ [x]) ex,w.setCell ⟨b,vs.length,none⟩ x,rfl, .inl ?_,?_,⟨rfl,rfl,rfl,by simp,by first | exact Nat.le_refl _ | exact Nat.le_succ _ | simp⟩⟩
        · simp only [sv]
          rw [Sem.run_bind,hr]
          simp [World.setCells,Nat.add_comm,Nat.add_left_comm]
        · have:=h0.set (i:=0) (b:=b) rfl hh (fun c hc=>heap_setCell_other w _ c x hc)
          rw [upd1] at this
          exact this
    · have hex:ex= []:=by cases ex with
        | nil=>rfl
        | cons a l=>simp at hroom
      subst hex
      have holds: ∀j u,vs[j]? =some u->w.cell? ((⟨b,0,none⟩:Addr).add j)=some u:=by
        intro j u hu
        have hj:j<vs.length:=by
          rcases Nat.lt_or_ge j vs.length with h | h
          · exact h
          · simp [List.getElem?_eq_none h] at hu
        have:(⟨b,0,none⟩:Addr).add j=⟨b,0+j,none⟩:=Addr.add_lit ..
        rw [this]
        simp at hb
        simp [World.cell?,hb,hu]
      have hfit:Builtin.nextslicecap (vs.length+1) (vs.length+([]:List Value).length)*i.bytes<=281474976710656:=by
        refine growslice_fits (by simp) ?_
        have:(vs.length+1)*i.bytes<=1073741825*4096:=Nat.mul_le_mul (by omega) hby
        omega
      have hr:=run_append_grow (P:=P) w t ty e i z h.und hi hz ⟨b,0,none⟩ vs.length (vs.length+([]:List Value).length) vs (by simp [hs]) holds ⟨c,0,none⟩ 1 m [x] (by simp [hs]) hnews (by simp) (by omega) hfit
      obtain ⟨ex,he,hx⟩:=zl (grownCap w (vs.length+1) (vs.length+([]:List Value).length) e - (vs.length+1))
      have hge:=grownCap_ge w (vs.length+1) (vs.length+([]:List Value).length) e
      rw [he] at hr
      refine ⟨.mk w.heap.size (vs++ [x]) ex,w.drew.alloc (.cells (vs.toArray++ #[x]++ex.toArray) e),rfl, .inl ?_,?_,ext _⟩
      · simp only [sv]
        rw [Sem.run_bind,hr]
        have e1:(vs++ [x]).length=vs.length+1:=by simp
        have e2:(vs++ [x]).length+ex.length=grownCap w (vs.length+1) (vs.length+([]:List Value).length) e:=by rw [e1];omega
        rw [e2,e1];rfl
      · have:=fresh (.cells (vs.toArray++ #[x]++ex.toArray) e)
        have e3:vs.toArray++ #[x]++ex.toArray=(vs++ [x]++ex).toArray:=by simp
        rw [e3] at this ⊢
        exact this
def Row.take:Row->Nat->Row
  | .nil,_=> .nil
  | .mk b vs ex,n=> .mk b (vs.take n) (vs.drop n++ex)
theorem vals_take (r:Row) (n:Nat):vals (r.take n)=(vals r).take n:=by cases r<;>simp [Row.take,vals]
theorem ss_take (r:Row) (e:TypeId) (n:Nat):ss e (r.take n)=ss e r:=by
  cases r with
  | nil=>rfl
  | mk b vs ex=>simp [Row.take,ss,←List.append_assoc]
def vtake (v:Value) (n:Nat):Value:=match v with | .slice a _ c=> .slice a n c | v=>v
theorem vtake_sv (r:Row) (n:Nat) (h:n<=(vals r).length):vtake (sv r) n=sv (r.take n):=by
  cases r with
  | nil=>simp [vals] at h;subst h;rfl
  | mk b vs ex =>
    simp only [vals] at h
    simp [vtake,sv,Row.take,List.length_take,Nat.min_eq_left h];omega
def f_take:List Value->Value:=fun vs=>vtake (varg vs 0) (ci (varg vs 1)).toNat
theorem xtake {P:Program} {t e:TypeId} {z:Value} (h:SlT P t e z) (r:Row) (k:IntKind) (n:Int) (h0:0<=n) (h1:n<=((vals r).length:Nat)):
    PureRun P (do pure (.value (←Instr.sliceAt t (sv r) none (some (.int k n)) none))) (vtake (sv r) n.toNat):=by
  intro w
  have hu:P.underlying t=some (.slice (P.elem t)):=by rw [h.elem];exact h.und
  have hs:=h.size w
  rw [←h.elem] at hs
  have key: ∀ (a:Option Addr) (l c:Nat),sv r= .slice a l c->(a.map (·.add 0)=a)->n<=(c:Int)->(Instr.sliceAt t (sv r) none (some (.int k n)) none).run P w= .ok (vtake (sv r) n.toNat) w:=by
    intro a l c hv ha hc
    rw [hv,run_sliceAt_slice w t _ _ _ _ hu,run_slice_h w t a l c hu k n h0 hc,hs]
    show Result.ok (sliced a 0 n.toNat c 1) w=_
    unfold sliced vtake
    simp [ha]
  have hk:(Instr.sliceAt t (sv r) none (some (.int k n)) none).run P w= .ok (vtake (sv r) n.toNat) w:=by
    cases r with
    | nil =>
      simp only [vals,List.length_nil] at h1
      exact key none 0 0 rfl rfl (by omega)
    | mk b vs ex =>
      simp only [vals] at h1
      exact key _ _ _ rfl (by simp [Addr.add]) (by omega)
  rw [Sem.run_bind,hk];rfl
theorem xmake {P:Program} {t e:TypeId} {z:Value} (h:SlT P t e z) (k:IntKind) (n:Int) (h0:0<=n) (h1:n<=1073741824):
    OpT P (do pure (.value (←Instr.makeSlice t (.int k n) (.int k n)))) [] Row sv (fun y=> [ss e y]) (fun y=>vals y=List.replicate n.toNat z):=by
  intro R w hO
  obtain ⟨i,hi,hz,hs,hby⟩:=h.info
  have hr:=run_make (P:=P) w t e i z h.und hi hz k k n n h0 (by omega) (by
    have:(i.bytes:Int)*n<=4096*1073741824:=Int.mul_le_mul (by omega) h1 h0 (by decide)
    omega) (by omega)
  have hm:madeCells z.cells (n.toNat*i.size)=(List.replicate n.toNat z).toArray:=by
    rw [hs,Nat.mul_one,h.zc]
    apply Array.ext
    · simp [madeCells]
    · intro j h1 h2;simp [madeCells,Nat.mod_one]
  rw [hm] at hr
  refine ⟨.mk w.heap.size (List.replicate n.toNat z) [],w.alloc (.cells (List.replicate n.toNat z).toArray e),rfl, .inl ?_,?_,?_⟩
  · rw [Sem.run_bind,hr];simp [sv]
  · have:=hO.new (w' :=w.alloc (.cells (List.replicate n.toNat z).toArray e)) (i:=0) (heap_alloc_new w _) (fun c hc=>heap_alloc_old w _ c hc)
    refine (congrArg (fun H=>Own H R (w.alloc (.cells (List.replicate n.toNat z).toArray e))) ?_).mp this
    funext i
    cases i with
    | zero=>simp [upd,ofList,ss]
    | succ i=>rfl
  · exact ⟨rfl,rfl,rfl,by simp,by first | exact Nat.le_refl _ | exact Nat.le_succ _ | simp⟩
end Go.Sx
namespace Go.Sx
open Go.RowKit
structure Sl (w:World) (n:Nat) (v:Value) (es:List (List Value)):Prop where
  len:vlen v=es.length
  form:v= .slice none 0 0∨ ∃a len cap,v= .slice (some a) len cap
  get: ∀i e,es[i]? =some e-> ∃a len cap,v= .slice (some a) len cap/\a.spot=none/\e.length=n/\ ∀j c,e[j]? =some c->w.cell? ⟨a.block,a.off+i*n+j,none⟩=some c
theorem old_inj {w w' :World} (h:old w=old w'):w=w' :=by
  unfold old at h;injection h with _ h _;injection h
theorem heap_of_old {w w' :World} (h:old w=old w'): ∀i:Nat,w.heap[i]? =w'.heap[i]? :=by rw [old_inj h];exact fun _=>rfl
theorem cell_of_heap {w w' :World} (h: ∀i:Nat,w.heap[i]? =w'.heap[i]?) (a:Addr):w.cell? a=w'.cell? a:=by
  simp only [World.cell?,h]
def At (w:World) (p:Value) (cs:List Value):Prop:= ∃a,p= .pointer (some a)/\ ∀j c,cs[j]? =some c->w.cell? ⟨a.block,a.off+j,none⟩=some c
def F_old {X:Type} (val:X->Value) (Ok:X->Prop):List Value->List Slot->Ctr:=fun vs hs=>⟨X,val,fun _=>hs,fun zx=>Ok zx/\ ∃w,sarg hs 0=old w/\At w (varg vs 0) (val zx).cells.toList⟩
def f_oidx (n:Nat):List Value->Value:=fun vs=> .pointer (some ⟨vblk (varg vs 0),voff (varg vs 0)+(ci (varg vs 1)).toNat*n,none⟩)
structure ElT (P:Program) (t e:TypeId) (n:Nat):Prop where
  und:P.underlying t=some (.slice e)
  size: ∀w,(sizeOf e).run P w= .ok n w
theorem xolen {P:Program} {t e:TypeId} {n m:Nat} (h:ElT P t e n) {w:World} {v:Value} {es:List (List Value)} (hs:Sl w m v es) (ty:TypeId):PureRun P (do pure (.value (←Builtin.len_ #[t] ty #[v]))) (.int .i64 ((vlen v:Nat):Int)):=by
  intro w
  rcases hs.form with rfl | ⟨a,len,cap,rfl⟩<;>simp [Builtin.len_,run_underlying h.und,vlen,goInt]
theorem xoidx {P:Program} {t e:TypeId} {n:Nat} (h:ElT P t e n) {w:World} {v:Value} {es:List (List Value)} (hs:Sl w n v es) (k:IntKind) (i:Int) (h0:0<=i) (h1:i<(es.length:Nat)):
    PureRun P (do pure (.value (←Instr.indexAt t v (.int k i)))) (.pointer (some ⟨vblk v,voff v+i.toNat*n,none⟩)):=by
  intro w
  have hx: ∃x,es[i.toNat]? =some x:=⟨es[i.toNat]'(by omega),List.getElem?_eq_getElem (by omega)⟩
  obtain ⟨x,hx⟩:=hx
  obtain ⟨a,len,cap,rfl,hsp,_⟩:=hs.get _ _ hx
  have hl:=hs.len
  simp only [vlen] at hl
  have hc:0<=i/\i<(len:Int):=⟨h0,by omega⟩
  obtain ⟨b,off,sp⟩:=a
  simp only at hsp;subst hsp
  simp [Instr.indexAt,run_underlying h.und,asIntOf,hc,h.size w,vblk,voff,Addr.add]
structure ElK (P:Program) (t:TypeId) (n:Nat) {X:Type} (val:X->Value) (Ok:X->Prop):Prop where
  agg:((∀w,(isAgg t).run P w= .ok true w)/\ ∀x,∃cs,val x= .agg cs)∨((∀w,(isAgg t).run P w= .ok false w)/\ ∀x,(val x).cells= #[val x])
  size: ∀w,(sizeOf t).run P w= .ok n w
  len: ∀x,(val x).cells.toList.length=n
  inj: ∀x y,Ok x->Ok y->(val x).cells.toList=(val y).cells.toList->x=y
structure SlX {X:Type} (w:World) (n:Nat) (val:X->Value) (Ok:X->Prop) (v:Value) (xs:List X):Prop where
  sl:Sl w n v (xs.map fun x=>(val x).cells.toList)
  ok: ∀x∈xs,Ok x
theorem SlX.at {X:Type} {w:World} {n:Nat} {val:X->Value} {Ok:X->Prop} {v:Value} {xs:List X} (h:SlX w n val Ok v xs) {i:Nat} {x:X} (hx:xs[i]? =some x):
    Ok x/\ ∃a len cap,v= .slice (some a) len cap/\a.spot=none/\ ∀j c,(val x).cells.toList[j]? =some c->w.cell? ⟨a.block,a.off+i*n+j,none⟩=some c:=by
  refine ⟨h.ok x (List.mem_of_getElem? hx),?_⟩
  obtain ⟨a,len,cap,hv,hsp,_,hc⟩:=h.sl.get i ((val x).cells.toList) (by rw [List.getElem?_map,hx];rfl)
  exact ⟨a,len,cap,hv,hsp,hc⟩
theorem SlX.vlen {X:Type} {w:World} {n:Nat} {val:X->Value} {Ok:X->Prop} {v:Value} {xs:List X} (h:SlX w n val Ok v xs):vlen v=xs.length:=by rw [h.sl.len,List.length_map]
theorem own_cell {w0 w:World} {R:HP} (h:Own (ofList [old w0]) R w) {a:Addr} {c:Value} (hc:w0.cell? a=some c):w.cell? a=some c:=by
  obtain ⟨p,q,hs,_,hp,_⟩:=h
  have h0:=hs 0
  simp only [ofList,old,List.getD_cons_zero,Slot.sat] at h0
  unfold World.cell? at hc ⊢
  cases ho:w0.heap[a.block]? with
  | none=>rw [ho] at hc;cases hc
  | some o=>rw [ho] at hc;rw [hp 0 a.block o (by rw [h0,ho])];exact hc
theorem xold {P:Program} {t:TypeId} {n:Nat} {X:Type} {val:X->Value} {Ok:X->Prop} (K:ElK P t n val Ok) {w0:World} {v:Value} {xs:List X} (h:SlX w0 n val Ok v xs) (i:Nat) {x:X} (hx:xs[i]? =some x):
    OpT P (do pure (.value (←Instr.loadAt t (.pointer (some ⟨vblk v,voff v+i*n,none⟩))))) [old w0] X val (fun _=> [old w0])
      (fun zx=>Ok zx/\ ∃w,old w0=old w/\At w (.pointer (some ⟨vblk v,voff v+i*n,none⟩)) (val zx).cells.toList):=by
  intro R w ho
  obtain ⟨hok,a,len,cap,rfl,hsp,hc⟩:=h.at hx
  refine ⟨x,w,⟨hok,w0,rfl,⟨_,rfl,fun j c hj=>hc j c hj⟩⟩, .inl ?_,ho,Ext.refl w⟩
  have hcell: ∀j c,(val x).cells.toList[j]? =some c->w.cell? ((⟨a.block,a.off+i*n,none⟩:Addr).add j)=some c:=fun j c hj=>by
    have:=own_cell ho (hc j c hj)
    rcases Nat.eq_zero_or_pos j with rfl | hj0
    · simpa [Addr.add] using this
    · simpa [Addr.add,Nat.ne_of_gt hj0] using this
  simp only [vblk,voff]
  rcases K.agg with ⟨ha,hv⟩ | ⟨ha,hv⟩
  · obtain ⟨cs,hcs⟩:=hv x
    have hr:=run_loadCells_list (P:=P) w ⟨a.block,a.off+i*n,none⟩ (val x).cells.toList hcell
    rw [K.len x] at hr
    simp [Instr.loadAt,Instr.sureAddr,loadVar,Sem.run_bind,ha,K.size w,hr,hcs,Value.cells]
  · have h0:w.cell? ⟨a.block,a.off+i*n,none⟩=some (val x):=by
      have:=hcell 0 (val x) (by rw [hv x];rfl)
      simpa [Addr.add] using this
    simp [Instr.loadAt,Instr.sureAddr,loadVar,Sem.run_bind,ha,h0]
theorem wold {X:Type} {val:X->Value} {Ok:X->Prop} {n:Nat} {w0:World} {v:Value} {xs:List X} (h:SlX w0 n val Ok v xs) (i:Nat) {x:X} (hx:xs[i]? =some x):
    ∃zx,(fun zx=>Ok zx/\ ∃w,old w0=old w/\At w (.pointer (some ⟨vblk v,voff v+i*n,none⟩)) (val zx).cells.toList) zx:=by
  obtain ⟨hok,a,len,cap,rfl,hsp,hc⟩:=h.at hx
  exact ⟨x,hok,w0,rfl,⟨_,rfl,fun j c hj=>hc j c hj⟩⟩
theorem eold {P:Program} {t:TypeId} {X:Type} {val:X->Value} {Ok:X->Prop} {n:Nat} (K:ElK P t n val Ok) {w0:World} {v:Value} {xs:List X} (h:SlX w0 n val Ok v xs) (i:Nat) {x:X} (hx:xs[i]? =some x) {zx:X}
    (hz:Ok zx/\ ∃w,old w0=old w/\At w (.pointer (some ⟨vblk v,voff v+i*n,none⟩)) (val zx).cells.toList):zx=x:=by
  obtain ⟨hok,a,len,cap,rfl,hsp,hc⟩:=h.at hx
  obtain ⟨hok',w,hw,⟨a',ha',hc'⟩⟩:=hz
  refine K.inj _ _ hok' hok ?_
  have hp:=heap_of_old hw
  simp only [vblk,voff,Value.pointer.injEq,Option.some.injEq] at ha'
  subst ha'
  have e1:=K.len zx
  have e2:=K.len x
  apply List.ext_getElem?
  intro j
  rcases Nat.lt_or_ge j n with hj | hj
  · have k1:=hc' j _ (List.getElem?_eq_getElem (by omega))
    have k2:=hc j _ (List.getElem?_eq_getElem (by omega))
    rw [←cell_of_heap hp] at k1
    simp only at k1
    rw [k2] at k1
    rw [List.getElem?_eq_getElem (by omega),List.getElem?_eq_getElem (by omega)]
    exact k1.symm
  · rw [List.getElem?_eq_none (by omega),List.getElem?_eq_none (by omega)]
def gx {X:Type} [Inhabited X] (xs:List X) (i:Nat):X:=xs.getD i default
theorem gx_some {X:Type} [Inhabited X] {xs:List X} {i:Nat} (h:i<xs.length):xs[i]? =some (gx xs i):=by
  unfold gx;rw [List.getD_eq_getElem?_getD,List.getElem?_eq_getElem h];rfl
end Go.Sx
namespace Go.Sx
def nv:List Int->Int
  | []=>0
  | d::l=>d+65536*nv l
def Dig (l:List Int):Prop:= ∀d∈l,0<=d/\d<65536
def dgt (l:List Int) (i:Nat):Int:=l.getD i 0
def Canon (l:List Int):Prop:=l.getLast? ≠some 0
def P16 (n:Nat):Int:=65536^n
theorem P16_zero:P16 0=1:=rfl
theorem P16_succ (n:Nat):P16 (n+1)=65536*P16 n:=by unfold P16;rw [Int.pow_succ,Int.mul_comm]
theorem P16_pos (n:Nat):0<P16 n:=Int.pow_pos (by decide)
theorem P16_add (m n:Nat):P16 (m+n)=P16 m*P16 n:=Int.pow_add ..
theorem P16_mono {m n:Nat} (h:m<=n):P16 m<=P16 n:=by
  obtain ⟨k,rfl⟩:=Nat.exists_eq_add_of_le h
  have:=Int.mul_le_mul_of_nonneg_left (Int.add_one_le_of_lt (P16_pos k)) (Int.le_of_lt (P16_pos m))
  rw [P16_add];simpa using this
theorem Dig.nil:Dig []:=fun _ h=>by cases h
theorem Dig.tail {d:Int} {l:List Int} (h:Dig (d::l)):Dig l:=fun x hx=>h x (.tail _ hx)
theorem Dig.head {d:Int} {l:List Int} (h:Dig (d::l)):0<=d/\d<65536:=h d (.head _)
theorem Dig.append {l m:List Int} (h:Dig l) (k:Dig m):Dig (l++m):=fun x hx=>(List.mem_append.1 hx).elim (h x) (k x)
theorem Dig.take {l:List Int} (h:Dig l) (n:Nat):Dig (l.take n):=fun x hx=>h x (List.mem_of_mem_take hx)
theorem Dig.drop {l:List Int} (h:Dig l) (n:Nat):Dig (l.drop n):=fun x hx=>h x (List.mem_of_mem_drop hx)
theorem Dig.one {x:Int} (h0:0<=x) (h1:x<65536):Dig [x]:=fun d hd=>by simp at hd;subst hd;exact ⟨h0,h1⟩
theorem Dig.set {l:List Int} (h:Dig l) (n:Nat) {x:Int} (h0:0<=x) (h1:x<65536):Dig (l.set n x):=fun d hd=>by
  rcases List.mem_or_eq_of_mem_set hd with h' | h'
  · exact h d h'
  · subst h';exact ⟨h0,h1⟩
theorem Dig.replicate (n:Nat):Dig (List.replicate n 0):=fun d hd=>by have:=(List.mem_replicate.1 hd).2;subst this;exact ⟨by decide,by decide⟩
theorem Dig.dgt {l:List Int} (h:Dig l) (i:Nat):0<=dgt l i/\dgt l i<65536:=by
  unfold Sx.dgt
  rw [List.getD_eq_getElem?_getD]
  cases hx:l[i]? with
  | none=>exact ⟨by decide,by decide⟩
  | some x=>exact h x (List.mem_of_getElem? hx)
theorem nv_nonneg: ∀ {l:List Int},Dig l->0<=nv l
  | [],_=>Int.le_refl _
  | d::l,h=>by have:=nv_nonneg h.tail;have:=h.head;simp only [nv];omega
theorem nv_lt: ∀ {l:List Int},Dig l->nv l<P16 l.length
  | [],_=>by decide
  | d::l,h=>by have:=nv_lt h.tail;have:=h.head;simp only [nv,List.length_cons,P16_succ];omega
theorem nv_append: ∀ (l m:List Int),nv (l++m)=nv l+P16 l.length*nv m
  | [],m=>by simp [nv,P16_zero]
  | d::l,m=>by simp only [List.cons_append,nv,nv_append l m,List.length_cons,P16_succ,Int.mul_add,Int.mul_assoc];omega
theorem nv_snoc (l:List Int) (x:Int):nv (l++ [x])=nv l+P16 l.length*x:=by rw [nv_append];simp [nv]
theorem nv_split (l:List Int) (n:Nat) (h:n<=l.length):nv l=nv (l.take n)+P16 n*nv (l.drop n):=by
  conv=>lhs;rw [←List.take_append_drop n l]
  rw [nv_append,List.length_take,Nat.min_eq_left h]
theorem take_succ_dgt (l:List Int) (i:Nat) (h:i<l.length):l.take (i+1)=l.take i++ [dgt l i]:=by
  rw [List.take_add_one,dgt,List.getD_eq_getElem?_getD,List.getElem?_eq_getElem h];rfl
theorem nv_take_succ (l:List Int) (i:Nat):nv (l.take (i+1))=nv (l.take i)+P16 i*dgt l i:=by
  rcases Nat.lt_or_ge i l.length with h | h
  · rw [take_succ_dgt l i h,nv_snoc,List.length_take,Nat.min_eq_left (by omega)]
  · rw [List.take_of_length_le h,List.take_of_length_le (by omega),dgt,List.getD_eq_getElem?_getD,List.getElem?_eq_none h];simp
theorem nv_take_all (l:List Int) (i:Nat) (h:l.length<=i):nv (l.take i)=nv l:=by rw [List.take_of_length_le h]
theorem nv_drop_dgt (l:List Int) (i:Nat):nv (l.drop i)=dgt l i+65536*nv (l.drop (i+1)):=by
  rcases Nat.lt_or_ge i l.length with h | h
  · rw [List.drop_eq_getElem_cons h,nv,dgt,List.getD_eq_getElem?_getD,List.getElem?_eq_getElem h];rfl
  · rw [List.drop_of_length_le h,List.drop_of_length_le (by omega),dgt,List.getD_eq_getElem?_getD,List.getElem?_eq_none h];rfl
theorem nv_set: ∀ (l:List Int) (j:Nat) (x:Int),j<l.length->nv (l.set j x)=nv l+P16 j*(x - dgt l j)
  | [],j,x,h=>by simp at h
  | d::l,0,x,_=>by simp [nv,dgt,P16_zero];omega
  | d :: l, j + 1, x, h => by
    have ih:=nv_set l j x (by simpa using h)
    have e:dgt (d::l) (j+1)=dgt l j:=by simp [dgt]
    rw [List.set_cons_succ,nv,ih,e,nv,P16_succ,Int.mul_add,Int.mul_assoc];omega
theorem nv_replicate: ∀n:Nat,nv (List.replicate n 0)=0
  | 0=>rfl
  | n+1=>by rw [List.replicate_succ,nv,nv_replicate n];rfl
theorem nv_zero: ∀ {l:List Int},Dig l->nv l=0->Canon l->l= []
  | [],_,_,_=>rfl
  | d :: l, h, h0, hc => by
    exfalso
    have:=nv_nonneg h.tail;have:=h.head
    simp only [nv] at h0
    have hd:d=0:=by omega
    have hl:nv l=0:=by omega
    subst hd
    cases l with
    | nil=>exact hc rfl
    | cons x l =>
      have:=nv_zero h.tail hl (by simpa [Canon] using hc)
      cases this
theorem canon_len {l : List Int} (h : Dig l) (hc : Canon l) {k : Nat} (hk : nv l < P16 k) : l.length <= k := by
  rcases Nat.lt_or_ge k l.length with hlt | hge
  · exfalso
    have hs:=nv_split l k (by omega)
    have a:=nv_nonneg (h.take k)
    have b:=nv_nonneg (h.drop k)
    have hp:=P16_pos k
    have:nv (l.drop k)=0:=by
      rcases Int.lt_or_le 0 (nv (l.drop k)) with h' | h'
      · have:=Int.mul_le_mul_of_nonneg_left (Int.add_one_le_of_lt h') (Int.le_of_lt hp)
        simp at this;omega
      · omega
    have hd:Canon (l.drop k):=by
      unfold Canon at *
      rw [List.getLast?_drop,if_neg (by omega)]
      exact hc
    have:=nv_zero (h.drop k) this hd
    have:=congrArg List.length this
    simp at this;omega
  · exact hge
theorem canon_pos {l:List Int} (h:Dig l) (hc:Canon l):(l.length=0)↔nv l=0:=by
  constructor
  · intro h';rw [List.length_eq_zero_iff.1 h'];rfl
  · intro h';rw [nv_zero h h' hc];rfl
def dg (r:Row):List Int:=(vals r).map ci
def rdv (v:Value) (s:Slot):List Int:=(rvals v s).map ci
theorem rdv_eq (r:Row) (e:TypeId):rdv (sv r) (ss e r)=dg r:=by rw [rdv,rvals_eq,dg]
structure RowOK (r:Row):Prop where
  int:vals r=(dg r).map (Value.int .i64)
  dig:Dig (dg r)
theorem dg_len (r:Row):(dg r).length=(vals r).length:=by simp [dg]
theorem vlen_dg (r:Row):vlen (sv r)=(dg r).length:=by rw [vlen_sv,dg_len]
theorem RowOK.get {r:Row} (h:RowOK r) {n:Nat} (hn:n<(dg r).length):(vals r)[n]? =some (.int .i64 (dgt (dg r) n)):=by
  rw [h.int,List.getElem?_map,dgt,List.getD_eq_getElem?_getD,List.getElem?_eq_getElem hn];rfl
theorem map_ci (l:List Int):(l.map (Value.int .i64)).map ci=l:=by rw [List.map_map];exact List.map_id _
theorem RowOK.of {r:Row} {l:List Int} (h:vals r=l.map (Value.int .i64)) (hd:Dig l):RowOK r/\dg r=l:=by
  have e:dg r=l:=by rw [dg,h,map_ci]
  exact ⟨⟨by rw [e];exact h,by rw [e];exact hd⟩,e⟩
theorem RowOK.nil:RowOK .nil:=⟨rfl,Dig.nil⟩
theorem RowOK.take {r:Row} (h:RowOK r) (n:Nat):RowOK (r.take n)/\dg (r.take n)=(dg r).take n:=
  RowOK.of (by rw [vals_take,h.int,List.map_take]) (h.dig.take n)
theorem RowOK.set {r:Row} (h:RowOK r) (n:Nat) {x:Int} (h0:0<=x) (h1:x<65536):RowOK (r.set n (.int .i64 x))/\dg (r.set n (.int .i64 x))=(dg r).set n x:=
  RowOK.of (by rw [vals_set,h.int,List.map_set]) (h.dig.set n h0 h1)
theorem RowOK.snoc {r y:Row} (h:RowOK r) {x:Int} (h0:0<=x) (h1:x<65536) (hy:vals y=vals r++ [.int .i64 x]):RowOK y/\dg y=dg r++ [x]:=
  RowOK.of (by rw [hy,h.int,List.map_append];rfl) (h.dig.append (Dig.one h0 h1))
theorem RowOK.zeros {y:Row} {n:Nat} (hy:vals y=List.replicate n (.int .i64 0)):RowOK y/\dg y=List.replicate n 0:=
  RowOK.of (by rw [hy,List.map_replicate]) (Dig.replicate n)
end Go.Sx
namespace Go.Sx
def F_get:List Value->List Slot->Ctr:=fun vs hs=>⟨Int,fun zx=> .int .i64 zx,fun _=>hs,fun zx=>(scells (sarg hs 0))[voff (varg vs 0)]? =some (.int .i64 zx)⟩
def F_put:List Value->List Slot->Ctr:=fun vs hs=>⟨Unit,fun _=> .tuple #[],fun _=> [sset (sarg hs 0) (voff (varg vs 0)) (varg vs 1)],fun _=>True⟩
def F_app (e:TypeId):List Value->List Slot->Ctr:=fun vs hs=>⟨Row,fun y=>sv y,fun y=> [ss e y,sarg hs 1],fun y=>vals y=rvals (varg vs 0) (sarg hs 0)++ [scell (sarg hs 1) 0]⟩
def F_make (e:TypeId) (z:Value):List Value->List Slot->Ctr:=fun vs _=>⟨Row,fun y=>sv y,fun y=> [ss e y],fun y=>vals y=List.replicate (ci (varg vs 0)).toNat z⟩
theorem scells_ss (r:Row) (e:TypeId) (n:Nat) (h:n<(vals r).length):(scells (ss e r))[n]? =(vals r)[n]? :=by
  cases r with
  | nil=>simp [vals] at h
  | mk b vs ex=>simp only [vals] at h;simp [scells,ss,vals,List.getElem?_append_left h]
theorem getR {e:TypeId} (r:Row) (n:Nat) (h:RowOK r) (hn:n<(dg r).length) {x:Int} (hx:(scells (ss e r))[n]? =some (.int .i64 x)):x=dgt (dg r) n:=by
  rw [scells_ss r e n (by rw [←dg_len];exact hn),h.get hn] at hx
  injection hx with hx;injection hx with _ hx;exact hx.symm
theorem wit_get {e:TypeId} (r:Row) (n:Nat) (h:RowOK r) (hn:n<(dg r).length): ∃x:Int,(fun zx=>(scells (ss e r))[n]? =some (.int .i64 zx)) x:=
  ⟨dgt (dg r) n,by dsimp only;rw [scells_ss r e n (by rw [←dg_len];exact hn),h.get hn]⟩
theorem xgetR {P:Program} {e:TypeId} (r:Row) (te:TypeId) (ha: ∀w,(isAgg te).run P w= .ok false w) (n:Nat) (h:RowOK r) (hn:n<(dg r).length):
    OpT P (do pure (.value (←Instr.loadAt te (.pointer (some ⟨vblk (sv r),n,none⟩))))) [ss e r] Int (fun zx=> .int .i64 zx) (fun _=> [ss e r]) (fun zx=>(scells (ss e r))[n]? =some (.int .i64 zx)):=by
  intro R w hO
  obtain ⟨_,w',_,hr,ho,he⟩:=xget (e:=e) r te ha n _ (h.get hn) R w hO
  exact ⟨dgt (dg r) n,w',by rw [scells_ss r e n (by rw [←dg_len];exact hn),h.get hn],hr,ho,he⟩
theorem xappendR {P:Program} {t e:TypeId} {z:Value} (h:SlT P t e z) (ty:TypeId) (r:Row) (hl:(dg r).length<=1073741824) (c m:Nat) (x:Value) (h2:x.oneCell' =true):
    OpT P (do pure (.value (←Builtin.append_ #[t,t] ty #[sv r, .slice (some ⟨c,0,none⟩) 1 m]))) [ss e r, .blk c (.cells #[x] e (0,0))] Row (fun zx=>sv zx) (fun zx=> [ss e zx, .blk c (.cells #[x] e (0,0))]) (fun zx=>vals zx=rvals (sv r) (ss e r)++ [x]):=by
  rw [rvals_eq]
  exact xappend h ty r (by rw [←dg_len];exact hl) c m x h2
theorem wit_app (l:List Value): ∃y:Row,(fun zx=>vals zx=l) y:=⟨.mk 0 l [],rfl⟩
theorem wit_make {e:TypeId} (n:Nat) (z:Value): ∃y:Row,(fun zx=>vals zx=List.replicate n z) y:=⟨.mk 0 _ [],rfl⟩
theorem rowOK_lit (b:Nat) (l:List Int) (h:l.all (fun d=>decide (0<=d) && decide (d<65536))=true):RowOK (.mk b (l.map (.int .i64)) []):=
  (RowOK.of rfl (fun d hd=>by have:=(List.all_eq_true.1 h) d hd;simpa using this)).1
end Go.Sx
namespace Go.Sx
theorem dgt_out {l:List Int} {n:Nat} (h:l.length<=n):dgt l n=0:=by
  rw [dgt,List.getD_eq_getElem?_getD,List.getElem?_eq_none h];rfl
structure TrimR (l m:List Int):Prop where
  eq:nv m=nv l
  canon:Canon m
  len:m.length<=l.length
structure TrimI (l:List Int) (n:Nat):Prop where
  le:n<=l.length
  eq:nv (l.take n)=nv l
theorem trim_start (l:List Int):TrimI l l.length:=⟨Nat.le_refl _,by rw [List.take_length]⟩
theorem trim_step {l:List Int} {n:Nat} (h:TrimI l n) (h0:0<n) (hd:dgt l (n - 1)=0):TrimI l (n - 1):=by
  refine ⟨by have:=h.le;omega,?_⟩
  have e:=nv_take_succ l (n - 1)
  rw [show n - 1+1=n from by omega,hd,Int.mul_zero,Int.add_zero] at e
  rw [←e];exact h.eq
theorem trim_end {l:List Int} {n:Nat} (h:TrimI l n) (hd:n=0∨dgt l (n - 1)≠0):TrimR l (l.take n):=by
  refine ⟨h.eq,?_,by simp;have:=h.le;omega⟩
  unfold Canon
  rcases hd with rfl | hd
  · simp
  · rcases Nat.eq_zero_or_pos n with rfl | hp
    · simp
    · have hl:=h.le
      rw [List.getLast?_eq_getElem?,List.length_take,Nat.min_eq_left hl,List.getElem?_take_of_lt (by omega)]
      intro hx
      exact hd (by rw [dgt,List.getD_eq_getElem?_getD,hx];rfl)
theorem wit_trim (a:Row) (h:RowOK a): ∃x:Row,(fun zx=>RowOK zx/\ss 3 zx=ss 3 a/\TrimR (rdv (sv a) (ss 3 a)) (dg zx)) x:=by
  rw [rdv_eq]
  have key: ∀n,TrimI (dg a) n-> ∃m,TrimI (dg a) m/\(m=0∨dgt (dg a) (m - 1)≠0):=by
    intro n
    induction n with
    | zero=>exact fun h=>⟨0,h, .inl rfl⟩
    | succ n ih =>
      intro h
      rcases Classical.em (dgt (dg a) n=0) with h' | h'
      · exact ih (trim_step h (by omega) h')
      · exact ⟨n+1,h, .inr h'⟩
  obtain ⟨m,hm,he⟩:=key _ (trim_start _)
  refine ⟨a.take m,(h.take m).1,ss_take _ _ _,?_⟩
  rw [(h.take m).2]
  exact trim_end hm he
structure CmpI (a b:List Int) (n:Nat):Prop where
  le:n<=max a.length b.length
  eq:nv (a.drop n)=nv (b.drop n)
theorem cmp_start (a b:List Int):CmpI a b (max a.length b.length):=
  ⟨Nat.le_refl _,by rw [List.drop_of_length_le (by omega),List.drop_of_length_le (by omega)]⟩
theorem nv_split' (l:List Int) (n:Nat):nv l=nv (l.take n)+P16 n*nv (l.drop n):=by
  rcases Nat.lt_or_ge l.length n with h | h
  · rw [List.take_of_length_le (by omega),List.drop_of_length_le (by omega)];simp [nv]
  · exact nv_split l n h
theorem nv_take_lt {l:List Int} (h:Dig l) (n:Nat):0<=nv (l.take n)/\nv (l.take n)<P16 n:=
  ⟨nv_nonneg (h.take n),Int.lt_of_lt_of_le (nv_lt (h.take n)) (P16_mono (by simp;omega))⟩
theorem cmp_step {a b:List Int} {n:Nat} (h:CmpI a b n) (h0:0<n) (hd:dgt a (n - 1)=dgt b (n - 1)):CmpI a b (n - 1):=by
  refine ⟨by have:=h.le;omega,?_⟩
  rw [nv_drop_dgt a,nv_drop_dgt b,hd,show n - 1+1=n from by omega,h.eq]
theorem cmp_lt {a b:List Int} (ha:Dig a) (hb:Dig b) {n:Nat} (h:CmpI a b n) (h0:0<n) (hd:dgt a (n - 1)<dgt b (n - 1)):nv a<nv b:=by
  have e1:=nv_split' a (n - 1);have e2:=nv_split' b (n - 1)
  rw [nv_drop_dgt a,show n - 1+1=n from by omega] at e1
  rw [nv_drop_dgt b,show n - 1+1=n from by omega,←h.eq] at e2
  have t1:=nv_take_lt ha (n - 1);have t2:=nv_take_lt hb (n - 1)
  have hp:=P16_pos (n - 1)
  have:=Int.mul_le_mul_of_nonneg_left (show dgt a (n - 1)+65536*nv (a.drop n)+1<=dgt b (n - 1)+65536*nv (a.drop n) by omega) (Int.le_of_lt hp)
  rw [Int.mul_add] at this
  omega
theorem cmp_end {a b:List Int} (h:CmpI a b 0):nv a=nv b:=by simpa using h.eq
theorem CmpI.symm {a b:List Int} {n:Nat} (h:CmpI a b n):CmpI b a n:=⟨by have:=h.le;omega,h.eq.symm⟩
theorem hCmp_lt {a b:Int} (h:a<b): -1=hCmp a b:=by unfold hCmp;rw [if_pos h]
theorem hCmp_gt {a b:Int} (h:b<a):1=hCmp a b:=by unfold hCmp;rw [if_neg (by omega),if_pos h]
theorem hCmp_eq {a b:Int} (h:a=b):0=hCmp a b:=by unfold hCmp;rw [if_neg (by omega),if_neg (by omega)]
structure AddI (a b:List Int) (i:Nat) (c:Int) (o:List Int):Prop where
  le:i<=max a.length b.length+1
  len:o.length=i
  c0:0<=c
  c1:c<=1
  ends:max a.length b.length<i->c=0
  eq:nv o+P16 i*c=nv (a.take i)+nv (b.take i)
theorem add_start (a b:List Int):AddI a b 0 0 []:=⟨by omega,rfl,by omega,by omega,by omega,by simp [nv]⟩
theorem add_step {a b o:List Int} {i:Nat} {c x:Int} (ha:Dig a) (hb:Dig b) (h:AddI a b i c o) (hx:x=dgt a i+dgt b i+c) (hlt:(i<max a.length b.length)∨0<c):
    AddI a b (i+1) (x/65536) (o++ [x%65536])/\0<=x%65536/\x%65536<65536:=by
  obtain ⟨h1,h2,h3,h4,h5,h6⟩:=h
  have da:=ha.dgt i;have db:=hb.dgt i
  refine ⟨⟨?_,by simp [h2],by omega,by omega,?_,?_⟩,by omega,by omega⟩
  · rcases Nat.lt_or_ge (max a.length b.length) i with h' | h'
    · have:=h5 h';omega
    · omega
  · intro h'
    have e1:dgt a i=0:=dgt_out (by omega)
    have e2:dgt b i=0:=dgt_out (by omega)
    omega
  · rw [nv_snoc,h2,nv_take_succ,nv_take_succ,P16_succ,Int.mul_comm 65536,Int.mul_assoc]
    have e:P16 i*(dgt a i+dgt b i+c)=P16 i*(x%65536)+P16 i*(65536*(x/65536)):=by rw [←Int.mul_add,←hx];congr 1;omega
    rw [Int.mul_add,Int.mul_add] at e
    omega
theorem add_end {a b o:List Int} {i:Nat} {c:Int} (h:AddI a b i c o) (hi:max a.length b.length<=i) (hc:c<=0):nv o=nv a+nv b:=by
  have e:=h.eq
  have:c=0:=by have:=h.c0;omega
  rw [this,Int.mul_zero,Int.add_zero,nv_take_all a i (by omega),nv_take_all b i (by omega)] at e
  exact e
structure SubI (a b:List Int) (i:Nat) (c:Int) (o:List Int):Prop where
  le:i<=a.length
  len:o.length=i
  c0:0<=c
  c1:c<=1
  eq:nv o=nv (a.take i) - nv (b.take i)+P16 i*c
theorem sub_start (a b:List Int):SubI a b 0 0 []:=⟨by omega,rfl,by omega,by omega,by simp [nv]⟩
theorem sub_go {a b o:List Int} {i:Nat} {c x c' :Int} (ha:Dig a) (hb:Dig b) (h:SubI a b i c o) (hi:i<a.length) (hx:x=dgt a i - dgt b i - c+65536*c') (h0:0<=x) (h1:x<65536) (c0:0<=c') (c1:c' <=1):
    SubI a b (i+1) c' (o++ [x]):=by
  obtain ⟨h1,h2,h3,h4,h6⟩:=h
  refine ⟨by omega,by simp [h2],by omega,by omega,?_⟩
  rw [nv_snoc,h2,nv_take_succ,nv_take_succ,P16_succ,h6,hx,Int.mul_add,Int.mul_sub,Int.mul_sub,Int.mul_comm 65536 (P16 i),Int.mul_assoc]
  omega
theorem sub_end {a b o:List Int} {c:Int} (ha:Dig a) (hb:Dig b) (ho:Dig o) (h:SubI a b a.length c o) (hle:nv b<=nv a):nv o=nv a - nv b:=by
  have e:=h.eq
  rw [nv_take_all a _ (Nat.le_refl _)] at e
  have e2:=nv_split' b a.length
  have la:=nv_lt ha
  have lb:=nv_take_lt hb a.length
  have lo:=nv_lt ho
  rw [h.len] at lo
  have d0:=nv_nonneg (hb.drop a.length)
  have n0:=nv_nonneg ho
  have hp:=P16_pos a.length
  have hd:nv (b.drop a.length)=0:=by
    rcases Int.lt_or_le 0 (nv (b.drop a.length)) with h' | h'
    · have:=Int.mul_le_mul_of_nonneg_left (Int.add_one_le_of_lt h') (Int.le_of_lt hp)
      simp at this;omega
    · omega
  rw [hd] at e2
  have c0:=h.c0;have c1:=h.c1
  have hc:c=0:=by
    rcases Int.lt_or_le 0 c with h' | h'
    · have:c=1:=by omega
      subst this;omega
    · omega
  subst hc;omega
end Go.Sx
namespace Go.Sx
theorem ex_digits : ∀ (k n : Nat), n <= k -> ∃ l : List Int, Dig l /\ nv l = (n : Int) /\ Canon l
  | k,0,_=>⟨[],Dig.nil,rfl,by simp [Canon]⟩
  | 0,n+1,h=>by omega
  | k + 1, n + 1, h => by
    obtain ⟨l,hd,hv,hc⟩:=ex_digits k ((n+1)/65536) (by omega)
    refine ⟨(((n+1)%65536:Nat):Int)::l,?_,?_,?_⟩
    · intro d hd'
      rcases List.mem_cons.1 hd' with rfl | h'
      · omega
      · exact hd d h'
    · simp only [nv,hv];omega
    · cases l with
      | nil =>
        simp only [nv] at hv
        intro h0
        simp at h0
        omega
      | cons x l=>simpa [Canon] using hc
theorem wit_row {n:Int} (h:0<=n): ∃x:Row,(fun zx=>RowOK zx/\nv (dg zx)=n/\Canon (dg zx)) x:=by
  obtain ⟨l,hd,hv,hc⟩:=ex_digits n.toNat n.toNat (Nat.le_refl _)
  obtain ⟨h1,h2⟩:=RowOK.of (r:= .mk 0 (l.map (.int .i64)) []) rfl hd
  exact ⟨_,h1,by rw [h2,hv];omega,by rw [h2];exact hc⟩
theorem quo_i64 {x:Int} (h0:0<=x) (h1:x<=9223372036854775807):IntKind.i64.wrap (Int.tdiv x 65536)=x/65536:=by
  rw [Int.tdiv_eq_ediv_of_nonneg h0,wrap_i64 _ (by omega) (by omega)]
end Go.Sx
namespace Go.Sx
structure MulO (a b:List Int) (i:Nat) (o:List Int):Prop where
  le:i<=a.length
  len:o.length=a.length+b.length
  eq:nv o=nv (a.take i)*nv b
  z:nv (o.drop (i+b.length))=0
structure MulN (a b:List Int) (i k:Nat) (c:Int) (o:List Int):Prop where
  le:k<=b.length
  len:o.length=a.length+b.length
  c0:0<=c
  c1:c<65536
  eq:nv o+P16 (i+k)*c=nv (a.take i)*nv b+P16 i*(dgt a i*nv (b.take k))
  z:nv (o.drop (i+b.length))=0
theorem dmul {a b:Int} (a0:0<=a) (a1:a<65536) (b0:0<=b) (b1:b<65536):0<=a*b/\a*b<=4294836225:=
  ⟨Int.mul_nonneg a0 b0,by
    have:a*b<=65535*65535:=Int.mul_le_mul (by omega) (by omega) b0 (by decide)
    omega⟩
theorem mul_start (a b:List Int) (n:Nat) (h:n=a.length+b.length):MulO a b 0 (List.replicate n 0):=
  ⟨by omega,by simp [h],by simp [nv_replicate,nv],by rw [List.drop_replicate,nv_replicate]⟩
theorem muln_start {a b o:List Int} {i:Nat} (h:MulO a b i o):MulN a b i 0 0 o:=
  ⟨by omega,h.len,by decide,by decide,by rw [h.eq];simp [nv],h.z⟩
theorem drop_set_lt (l:List Int) (j n:Nat) (x:Int) (h:j<n):(l.set j x).drop n=l.drop n:=by
  rw [List.drop_set_of_lt h]
theorem muln_step {a b o:List Int} {i k:Nat} {c x:Int} (ha:Dig a) (hb:Dig b) (ho:Dig o) (h:MulN a b i k c o) (hi:i<a.length) (hk:k<b.length) (hx:x=dgt o (i+k)+dgt a i*dgt b k+c):
    MulN a b i (k+1) (x/65536) (o.set (i+k) (x%65536))/\0<=x%65536/\x%65536<65536:=by
  obtain ⟨h1,h2,h3,h4,h5,h6⟩:=h
  have da:=ha.dgt i;have db:=hb.dgt k;have d_o:=ho.dgt (i+k)
  have hab:=dmul da.1 da.2 db.1 db.2
  refine ⟨⟨by omega,by simp [h2],by omega,by omega,?_,?_⟩,by omega,by omega⟩
  · rw [nv_set o (i+k) _ (by omega),nv_take_succ,show i+(k+1)=i+k+1 from rfl,P16_succ,Int.mul_add (dgt a i),Int.mul_add (P16 i)]
    have e1:P16 i*(dgt a i*(P16 k*dgt b k))=P16 (i+k)*(dgt a i*dgt b k):=by rw [P16_add,Int.mul_left_comm (dgt a i),Int.mul_assoc]
    rw [e1]
    have e2:P16 (i+k)*(dgt o (i+k)+dgt a i*dgt b k+c)=P16 (i+k)*(x%65536)+P16 (i+k)*(65536*(x/65536)):=by rw [←Int.mul_add,←hx];congr 1;omega
    rw [Int.mul_add,Int.mul_add] at e2
    rw [Int.mul_sub,Int.mul_comm 65536,Int.mul_assoc]
    omega
  · rw [drop_set_lt _ _ _ _ (by omega)];exact h6
theorem dgt_zero_of {l:List Int} (h:Dig l) {n:Nat} (hz:nv (l.drop n)=0):dgt l n=0/\nv (l.drop (n+1))=0:=by
  have:=nv_drop_dgt l n
  have:=h.dgt n
  have:=nv_nonneg (h.drop (n+1))
  omega
theorem muln_end {a b o:List Int} {i:Nat} {c:Int} (ho:Dig o) (h:MulN a b i b.length c o) (hi:i<a.length):
    MulO a b (i+1) (o.set (i+b.length) (dgt o (i+b.length)+c))/\0<=dgt o (i+b.length)+c/\dgt o (i+b.length)+c<65536:=by
  obtain ⟨h1,h2,h3,h4,h5,h6⟩:=h
  obtain ⟨z1,z2⟩:=dgt_zero_of ho h6
  refine ⟨⟨by omega,by simp [h2],?_,?_⟩,by omega,by omega⟩
  · rw [nv_set o _ _ (by omega),nv_take_succ,Int.add_mul,Int.mul_assoc]
    rw [nv_take_all b _ (Nat.le_refl _)] at h5
    rw [Int.mul_sub,Int.mul_add]
    omega
  · rw [drop_set_lt _ _ _ _ (by omega),show i+1+b.length=i+b.length+1 from by omega];exact z2
theorem mul_end {a b o:List Int} (h:MulO a b a.length o):nv o=nv a*nv b:=by
  rw [h.eq,nv_take_all a _ (Nat.le_refl _)]
end Go.Sx
namespace Go.Sx
theorem snoc3 {r y:Row} {k:Nat} {n x p:Int} (h:RowOK r/\(dg r).length=k/\nv (dg r)=n) (hp:P16 k=p) (hy:vals y=vals r++ [.int .i64 x]) (h0:0<=x) (h1:x<65536):
    RowOK y/\(dg y).length=k+1/\nv (dg y)=n+p*x:=by
  obtain ⟨q1,q2⟩:=h.1.snoc h0 h1 hy
  refine ⟨q1,by rw [q2];simp [h.2.1],?_⟩
  rw [q2,nv_snoc,h.2.1,h.2.2,hp]
theorem nil3:RowOK .nil/\(dg .nil).length=0/\nv (dg .nil)=0:=⟨RowOK.nil,rfl,rfl⟩
theorem quo_u16 {x:Int} (h:W x):IntKind.u64.wrap (Int.tdiv x 65536)=x/65536:=by
  rw [Int.tdiv_eq_ediv_of_nonneg h.1,wrap_u64];unfold W at h;omega
theorem W_div {x:Int} (h:W x):W (x/65536):=by unfold W at *;omega
theorem wit_num {n:Int} (h:R4 n): ∃x:Row,(fun zx=>RowOK zx/\nv (dg zx)=n/\Canon (dg zx)/\(dg zx).length<=16) x:=by
  obtain ⟨x,h1,h2,h3⟩:=wit_row h.1
  refine ⟨x,h1,h2,h3,canon_len h1.dig h3 ?_⟩
  rw [h2,show P16 16=115792089237316195423570985008687907853269984665640564039457584007913129639936 from rfl];exact h.2
theorem num_len {l:List Int} {n:Int} (hd:Dig l) (hc:Canon l) (hn:nv l=n) (h:R4 n):l.length<=16:=by
  refine canon_len hd hc ?_
  rw [hn,show P16 16=115792089237316195423570985008687907853269984665640564039457584007913129639936 from rfl];exact h.2
theorem conv16 (x:Int):IntKind.i64.wrap (x%65536)=x%65536:=wrap_i64 _ (by omega) (by omega)
theorem m16_0 (x:Int):0<=x%65536:=by omega
theorem m16_1 (x:Int):x%65536<65536:=by omega
theorem limb_digits {x:Int} (h:W x):x%65536+65536*(x/65536%65536)+4294967296*(x/65536/65536%65536)+281474976710656*(x/65536/65536/65536%65536)=x:=by
  unfold W at h;omega
end Go.Sx
namespace Go.Sx
theorem OpT.ofPure {P:Program} {m:Sem Next} {v v' :Value} (h:PureRun P m v) (e:v=v'):OpT P m [] Unit (fun _=>v') (fun _=> []) (fun _=>True):=
  fun _ w hO=>⟨(),w,trivial, .inl (by rw [h w,e]),hO,Ext.refl w⟩
theorem len40 {l:List Int} {n:Int} (hd:Dig l) (hc:Canon l) (hn:nv l=n) (h:n<179769313486231590772930519078902473361797697894230657273430081157732675805500963132708477322407536021120113879871393357658789768814416622492847430639474124377767893424865485276302219601246094119453082952085005768838150682342462881473913110540827237163350510684586298239947245938479716304835356329624224137216):l.length<=64:=by
  refine canon_len hd hc ?_
  rw [hn,show P16 64=179769313486231590772930519078902473361797697894230657273430081157732675805500963132708477322407536021120113879871393357658789768814416622492847430639474124377767893424865485276302219601246094119453082952085005768838150682342462881473913110540827237163350510684586298239947245938479716304835356329624224137216 from rfl]
  exact h
theorem wide_num {n:Int} (h:R8 n):n<179769313486231590772930519078902473361797697894230657273430081157732675805500963132708477322407536021120113879871393357658789768814416622492847430639474124377767893424865485276302219601246094119453082952085005768838150682342462881473913110540827237163350510684586298239947245938479716304835356329624224137216:=Int.lt_trans h.2 (by decide)
end Go.Sx
namespace Go.Sx
open Go.RowKit Go.ChangeShapes Go.WideShapes
section
variable {H:Type} {enc:TypeId×Value->H} {P:Program}
theorem list4 {α:Type} {l:List α} (h:l.length=4): ∃a b c d,l= [a,b,c,d]:=by
  match l,h with
  | [a,b,c,d],_=>exact ⟨a,b,c,d,rfl⟩
theorem wf_W {n:Int} (h:(Lit.int .u64 n).wf=true):W n:=by
  simp [Lit.wf,IntKind.min,IntKind.max,IntKind.signed,IntKind.bits] at h
  unfold W;omega
end
end Go.Sx
namespace Go.Sx
open Go.RowKit Go.ChangeShapes Go.WideShapes
section
variable {H:Type} {enc:TypeId×Value->H} {P:Program}
end
end Go.Sx
namespace Go.Sx
open Go.RowKit Go.ChangeShapes Go.WideShapes
section
variable {H:Type} {enc:TypeId×Value->H} {P:Program}
theorem cells_get {w:World} {base:Nat} {a:Addr} {n:Nat} {cs:List Value} (h:w.cells? base a n=some cs):cs.length=n/\ ∀j c,cs[j]? =some c->w.cell? (a.add j)=some c:=by
  unfold World.cells? at h
  split at h
  · have hl:=mapM_some_length h
    simp at hl
    refine ⟨hl,fun j c hj=> ?_⟩
    have hlt:j<n:=by
      have:=(List.getElem?_eq_some_iff.1 hj).1;omega
    have:=mapM_some_get h j j (by simp [hlt])
    rw [this];exact hj
  · cases h
def Opens (P : Program) (t : TypeId) (n : Nat) {X : Type} (val : X -> Value) (Ok : X -> Prop) : Prop :=
  ∀ (H : Type) (enc : TypeId × Value -> H) (W : World) (base : Nat) (sp : Nat -> Bool) (held : Bool) (fuel : Nat) (cs : List Value) (y : DataW H × List MemPlace),
    cs.length=n->DataW.trod enc P W base sp held fuel t cs=some y-> ∃x,cs=(val x).cells.toList/\Ok x
theorem add_add_spot {a:Addr} (hs:a.spot=none) (i j:Nat):(a.add i).add j=⟨a.block,a.off+i+j,none⟩:=by
  obtain ⟨b,o,s⟩:=a
  simp only at hs;subst hs
  unfold Addr.add
  by_cases hi:i=0<;>by_cases hj:j=0<;>simp [hi,hj]
theorem open_slice {X : Type} {val : X -> Value} {Ok : X -> Prop} {t e : TypeId} {n : Nat} (hu : P.underlying t = some (.slice e)) (hc : P.cellsOf e = n) (hn : 0 < n) (O : Opens P e n val Ok) {W : World} {sp : Nat -> Bool} {held : Bool} {base : Nat} {v : Value} {d : DataW H} {ps : List MemPlace}
    (hd:DataW.Trod enc P W base sp held t v d ps) (h1:v.cells= #[v]): ∃xs:List X,SlX W n val Ok v xs/\xs.length<=maxLen:=by
  obtain ⟨fuel,hf⟩:=hd
  rw [h1] at hf
  rcases DataW.trod_slice hu hf with ⟨hv,_⟩ | ⟨a,len,cap,elems,rest,m,hm,hv,hx,hb,hlc,hcm,hel,hget,_⟩
  · refine ⟨[],⟨⟨?_,?_,fun i e h=>by simp at h⟩,fun x h=>by cases h⟩,by simp⟩
    · simp at hv;subst hv;rfl
    · simp at hv;exact .inl hv
  · simp at hv; subst hv
    rw [hc] at hget
    have key: ∀i,i<len-> ∃x:X,Ok x/\ ∀j c,(val x).cells.toList[j]? =some c->W.cell? ((a.add (i*n)).add j)=some c:=by
      intro i hi
      have h:=hget i hi
      obtain ⟨y,hy⟩: ∃y,elems[i]? =some y:=⟨_,List.getElem?_eq_getElem (by omega)⟩
      rw [hy,Option.bind_eq_some_iff] at h
      obtain ⟨cs,h2,h3⟩:=h
      obtain ⟨hl,hcell⟩:=cells_get h2
      obtain ⟨x,hx,hok⟩:=O _ _ _ _ _ _ _ _ _ hl h3
      exact ⟨x,hok,fun j c hj=>hcell j c (by rw [hx];exact hj)⟩
    have len0: ∀i,i<len-> ∃x:X,Ok x/\(val x).cells.toList.length=n/\ ∀j c,(val x).cells.toList[j]? =some c->W.cell? ((a.add (i*n)).add j)=some c:=by
      intro i hi
      have h:=hget i hi
      obtain ⟨y,hy⟩: ∃y,elems[i]? =some y:=⟨_,List.getElem?_eq_getElem (by omega)⟩
      rw [hy,Option.bind_eq_some_iff] at h
      obtain ⟨cs,h2,h3⟩:=h
      obtain ⟨hl,hcell⟩:=cells_get h2
      obtain ⟨x,hx,hok⟩:=O _ _ _ _ _ _ _ _ _ hl h3
      exact ⟨x,hok,by rw [←hx];exact hl,fun j c hj=>hcell j c (by rw [hx];exact hj)⟩
    have spot:0<len->a.spot=none:=by
      intro h0
      obtain ⟨x,_,hl,hcell⟩:=len0 0 h0
      have:=hcell 0 _ (List.getElem?_eq_getElem (by omega))
      unfold World.cell? at this
      split at this
      · rename_i cs _ _ _
        cases hs:a.spot with
        | none=>rfl
        | some s=>simp [Addr.add,hs] at this
      · cases this
    have build: ∀m,m<=len-> ∃xs:List X,xs.length=m/\(∀x∈xs,Ok x)/\ ∀i x,xs[i]? =some x->(val x).cells.toList.length=n/\ ∀j c,(val x).cells.toList[j]? =some c->W.cell? ((a.add (i*n)).add j)=some c:=by
      intro m
      induction m with
      | zero=>exact fun _=>⟨([]:List X),rfl,⟨fun x h=>absurd h (by simp),fun i x h=>by simp at h⟩⟩
      | succ m ih =>
        intro hm
        obtain ⟨xs,hl,hok,hg⟩:=ih (by omega)
        obtain ⟨x,hx1,hx2,hx3⟩:=len0 m (by omega)
        refine ⟨xs++ [x],by simp [hl],fun y hy=> ?_,fun i y hy=> ?_⟩
        · rcases List.mem_append.1 hy with h | h
          · exact hok y h
          · simp at h;subst h;exact hx1
        · rcases Nat.lt_or_ge i m with hi | hi
          · rw [List.getElem?_append_left (by omega)] at hy;exact hg i y hy
          · rw [List.getElem?_append_right (by omega)] at hy
            have hi' :i=m:=by
              have:=(List.getElem?_eq_some_iff.1 hy).1
              simp at this;omega
            subst hi'
            rw [hl,Nat.sub_self] at hy
            simp at hy;subst hy
            exact ⟨hx2,hx3⟩
    obtain ⟨xs,hl,hok,hg⟩:=build len (Nat.le_refl _)
    refine ⟨xs,⟨⟨by simp [vlen,hl], .inr ⟨a,len,cap,rfl⟩,fun i e he=> ?_⟩,hok⟩,by omega⟩
    rw [List.getElem?_map] at he
    cases hxi:xs[i]? with
    | none=>rw [hxi] at he;cases he
    | some x =>
      rw [hxi] at he
      simp at he;subst he
      obtain ⟨g1,g2⟩:=hg i x hxi
      have hs:=spot (by have:=(List.getElem?_eq_some_iff.1 hxi).1;omega)
      refine ⟨a,len,cap,rfl,hs,g1,fun j c hj=> ?_⟩
      have:=g2 j c hj
      rw [add_add_spot hs] at this
      exact this
theorem opens_int {t:TypeId} {k:IntKind} (hu:P.underlying t=some (.int k)):Opens P t 1 (Value.int k) (fun n=>(Lit.int k n).wf=true):=by
  intro H enc W base sp held fuel cs y hl h
  obtain ⟨n,rfl,_,hw⟩:=DataW.trod_int hu h
  exact ⟨n,rfl,hw⟩
theorem opens_num {t e:TypeId} (hu:P.underlying t=some (.array 4 e)) (he:P.underlying e=some (.int .u64)) (hc:P.cellsOf e=1) (hk:P.cellsOf t=4):Opens P t 4 vI R4:=by
  intro H enc W base sp held fuel cs y hl hf
  obtain ⟨a0,a1,a2,a3,rfl⟩:=list4 hl
  cases fuel with
  | zero=>simp [DataW.trod] at hf
  | succ m =>
    rw [DataW.trod_step] at hf
    unfold DataW.trodStep at hf
    have hr:List.range 4= [0,1,2,3]:=rfl
    simp only [hu,hc,hk,hr,List.mapM_cons,List.mapM_nil,bind,Option.bind_eq_some_iff,pure,Option.map_eq_some_iff] at hf
    simp only [List.length_cons,List.length_nil,List.drop_zero,Nat.zero_mul,Nat.one_mul,Nat.mul_one,List.drop_succ_cons,List.take_succ_cons,List.take_zero,if_true] at hf
    have one: ∀ (a:Value) (x:DataW H×List MemPlace),DataW.trod enc P W base sp held m e [a]=some x-> ∃n,a= .int .u64 n/\(Lit.int .u64 n).wf=true:=by
      intro a x hx
      obtain ⟨n,h1,h2,h3⟩:=DataW.trod_int he hx
      exact ⟨n,by simpa using h1,h3⟩
    cases h0:DataW.trod enc P W base sp held m e [a0] with
    | none=>rw [h0] at hf;cases hf
    | some y0=>
    cases h1:DataW.trod enc P W base sp held m e [a1] with
    | none=>rw [h0,h1] at hf;cases hf
    | some y1=>
    cases h2:DataW.trod enc P W base sp held m e [a2] with
    | none=>rw [h0,h1,h2] at hf;cases hf
    | some y2=>
    cases h3:DataW.trod enc P W base sp held m e [a3] with
    | none=>rw [h0,h1,h2,h3] at hf;cases hf
    | some y3=>
    obtain ⟨n0,rfl,w0⟩:=one _ _ h0
    obtain ⟨n1,rfl,w1⟩:=one _ _ h1
    obtain ⟨n2,rfl,w2⟩:=one _ _ h2
    obtain ⟨n3,rfl,w3⟩:=one _ _ h3
    refine ⟨num (.agg #[.int .u64 n0, .int .u64 n1, .int .u64 n2, .int .u64 n3]),?_,R4_num4 (wf_W w0) (wf_W w1) (wf_W w2) (wf_W w3)⟩
    rw [vI_num4 (wf_W w0) (wf_W w1) (wf_W w2) (wf_W w3)];rfl
end
end Go.Sx
namespace Go.Sx
open Go.RowKit Go.ChangeShapes Go.WideShapes
section
variable {H:Type} {enc:TypeId×Value->H} {P:Program}
theorem slice_cells {t e:TypeId} {W:World} {r:Reach} {b0:Nat} {v:Value} (hu:P.underlying t=some (.slice e)) (hval:Value.okWide P W r b0 t v):v.cells= #[v]:=by
  cases v<;>simp [Value.okWide,hu] at hval<;>first | rfl | simp [Cell.okWide,Cell.ok,hu] at hval
theorem below_trodAll {W W' :World} (hl:laidOutB P=true): ∀ {ts:List TypeId} {vs:List Value} {ds:List (DataW H)} {ps:List MemPlace},(∀t∈ts,P.readableRec t=true/\t<P.types.size)->
    DataW.TrodAll enc P W 0 (fun _=>true) true ts vs ds ps->Below W.heap.size W W' ->(∀x∈ps,x.block<W.heap.size)->DataW.TrodAll enc P W' 0 (fun b=>decide (b<W.heap.size)) true ts vs ds ps
  | [], vs, ds, ps, _, h, _, _ => by
    obtain ⟨rfl,rfl,rfl⟩:=trodAll_nil h
    exact rfl
  | t :: ts, vs, ds, ps, ht, h, hb, hlt => by
    obtain ⟨v,vs',d,ds',p,q,rfl,rfl,rfl,hd,hr⟩:=trodAll_cons h
    obtain ⟨h1,h2⟩:=ht t (List.mem_cons_self ..)
    exact ⟨p,q,Below.trod hl h1 h2 hd hb (fun x hx=>hlt x (List.mem_append_left _ hx)),below_trodAll hl (fun t' h' =>ht t' (List.mem_cons_of_mem _ h')) hr hb (fun x hx=>hlt x (List.mem_append_right _ hx)),rfl⟩
theorem post_of_below2 {f:Func} {s:ChangeSpec} {apart fresh handsOn:Bool} {W W' :World} {args:Array Value} {v:Value} {ds gs:List (DataW H)} {before:List MemPlace} (hl:laidOutB P=true) (ht: ∀t∈f.params.toList,P.readableRec t=true/\t<P.types.size)
    (hW:DataW.Whole enc P f.params.toList s.vars apart W args.toList ds gs before)
    (hres: ∀ (b:Nat) (sp:Nat->Bool) (hd:Bool),DataW.TrodAll enc P W' b sp hd f.resultTypes.toList (v.resultList f.resultTypes.size) (s.fn H (ds++gs)).results [])
    (hvars:s.vars= []) (hargs:(s.fn H (ds++gs)).args=ds) (hvs:(s.fn H (ds++gs)).vars= []) (hb:Below W.heap.size W W'):
    s.post enc P f apart fresh handsOn false W args v W' :=by
  have hlt:=hW.lt
  have hW0:=hW
  obtain ⟨p,q,hA,hV,rfl,hz,hn⟩:=hW0
  rw [hvars] at hV
  obtain ⟨rfl,rfl⟩:=trodVars_none hV
  refine ⟨ds,[],_,[],p,[],hW,hres _ _ _,?_,?_,World.keptBut_mono (fun x hx=>⟨hx,?_⟩) (hb.frame (· ∈p++ [])),fun h=>by cases h⟩
  · rw [hargs]
    exact below_trodAll hl ht hA hb (fun x hx=>hlt x (List.mem_append_left _ hx))
  · rw [hvars,hvs];exact rfl
  · simp at hx;exact Or.inr (Or.inl hx)
end
end Go.Sx
namespace Go.Sx
def un:Nat->Int
  | 0=>0
  | 1=>1
  | 2=>2
  | 3=>4
  | 4=>8
  | 5=>16
  | 6=>32
  | 7=>64
  | 8=>128
  | 9=>256
  | 10=>512
  | 11=>1024
  | 12=>2048
  | 13=>4096
  | 14=>8192
  | 15=>16384
  | _=>32768
structure DivO (A B:List Int) (n:Nat) (Q L:List Int):Prop where
  le:n<=A.length
  len:Q.length=A.length
  hz:nv (Q.take n)=0
  eq:nv (A.drop n)=nv (Q.drop n)*nv B+nv L
  lt:nv L<nv B
  canon:Canon L
structure DivN (A B:List Int) (i k:Nat) (Q L:List Int):Prop where
  li:i<A.length
  k16:k<=16
  len:Q.length=A.length
  hz:nv (Q.take i)=0
  eq:nv (A.drop (i+1))*2^(16 - k)+dgt A i/2^k=(nv (Q.drop (i+1))*2^(16 - k)+dgt Q i/2^k)*nv B+nv L
  dv:dgt Q i%2^k=0
  lt:nv L<nv B
  canon:Canon L
theorem nv_take_zero {Q:List Int} (h:Dig Q) {n m:Nat} (hm:m<=n) (hz:nv (Q.take n)=0):nv (Q.take m)=0:=by
  have h1:Q.take m=(Q.take n).take m:=by rw [List.take_take,Nat.min_eq_left hm]
  have h2:=nv_split' (Q.take n) m
  have h3:=nv_nonneg ((h.take n).take m)
  have h4:=nv_nonneg ((h.take n).drop m)
  have h5:=P16_pos m
  have h6:=Int.mul_nonneg (Int.le_of_lt h5) h4
  rw [h1];omega
theorem dgt_take_zero {Q:List Int} (h:Dig Q) {n:Nat} (hz:nv (Q.take (n+1))=0):dgt Q n=0:=by
  have h2:=nv_take_succ Q n
  have h3:=nv_take_zero h (by omega:n<=n+1) hz
  rw [hz,h3] at h2
  have h5:=P16_pos n
  have h6:P16 n*dgt Q n=0:=by omega
  rcases Int.mul_eq_zero.1 h6 with h | h
  · omega
  · exact h
theorem div_start (A B:List Int) (hb:0<nv B):DivO A B A.length (List.replicate A.length 0) []:=
  ⟨Nat.le_refl _,by simp,by rw [List.take_replicate];exact nv_replicate _,by simp [nv,nv_replicate],by simpa [nv] using hb,by simp [Canon]⟩
theorem divn_start {A B Q L:List Int} {n:Nat} (hA:Dig A) (hQ:Dig Q) (h:DivO A B (n+1) Q L):DivN A B n 16 Q L:=by
  have hq:=dgt_take_zero hQ h.hz
  refine ⟨by have:=h.le;omega,Nat.le_refl _,h.len,nv_take_zero hQ (by omega) h.hz,?_,by rw [hq];rfl,h.lt,h.canon⟩
  have ha:=(hA.dgt n).2
  have ha0:=(hA.dgt n).1
  rw [hq]
  have e:dgt A n/2^16=0:=by omega
  have e0:(0:Int)/2^16=0:=by omega
  rw [e,e0,show 16 - 16=0 from rfl,show (2:Int)^0=1 from rfl,Int.mul_one,Int.mul_one,Int.add_zero,Int.add_zero]
  exact h.eq
theorem divn_end {A B Q L:List Int} {i:Nat} (h:DivN A B i 0 Q L):DivO A B i Q L:=by
  refine ⟨by have:=h.li;omega,h.len,h.hz,?_,h.lt,h.canon⟩
  have e:=h.eq
  simp only [Nat.sub_zero,Int.pow_zero,Int.ediv_one] at e
  rw [nv_drop_dgt A,nv_drop_dgt Q]
  have e1:nv (A.drop (i+1))*2^16=65536*nv (A.drop (i+1)):=by omega
  have e2:nv (Q.drop (i+1))*2^16=65536*nv (Q.drop (i+1)):=by omega
  rw [e1,e2] at e
  rw [Int.add_comm,e,Int.add_comm (65536*_)]
theorem pow2_succ (m:Nat):(2:Int)^(m+1)=2*2^m:=by rw [Int.pow_succ,Int.mul_comm]
theorem pow2_pos (m:Nat):(0:Int)<2^m:=Int.pow_pos (by decide)
theorem div_two (a:Int) (m:Nat):a/2^(m+1)=a/2^m/2:=by
  rw [Int.pow_succ,Int.ediv_ediv_of_nonneg (Int.le_of_lt (pow2_pos m))]
theorem pow2_sub {m:Nat} (h:m+1<=16):(2:Int)^(16 - m)=2*2^(16 - (m+1)):=by
  rw [←pow2_succ];congr 1;omega
theorem divn_bit {A B Q L M:List Int} {i m:Nat} (h:DivN A B i (m+1) Q L) (hm:nv M=2*nv L+dgt A i/2^m%2):
    nv (A.drop (i+1))*2^(16 - m)+dgt A i/2^m=(nv (Q.drop (i+1))*2^(16 - m)+dgt Q i/2^m)*nv B+nv M/\dgt Q i%2^m=0/\dgt Q i/2^m%2=0:=by
  have e:=h.eq
  have dv:=h.dv
  have k16:=h.k16
  rw [div_two,div_two] at e
  have hq:dgt Q i=2^(m+1)*(dgt Q i/2^(m+1)):=by
    have:=Int.mul_ediv_add_emod (dgt Q i) (2^(m+1));omega
  have hq2:dgt Q i=2^m*(2*(dgt Q i/2^(m+1))):=by
    rw [←Int.mul_assoc,Int.mul_comm (2^m) 2,←pow2_succ];exact hq
  have hq3:dgt Q i/2^m=2*(dgt Q i/2^(m+1)):=by
    conv=>lhs;rw [hq2]
    exact Int.mul_ediv_cancel_left _ (Int.ne_of_gt (pow2_pos m))
  have hmod:dgt Q i%2^m=0:=by rw [hq2];exact Int.mul_emod_right _ _
  refine ⟨?_,hmod,by omega⟩
  rw [pow2_sub k16,hm]
  generalize dgt A i/2^m=a at e ⊢
  rw [hq3] at e ⊢
  rw [show 2*(dgt Q i/2^(m+1))/2=dgt Q i/2^(m+1) from by omega] at e
  generalize dgt Q i/2^(m+1)=q at e ⊢
  generalize (2:Int)^(16 - (m+1))=p at e ⊢
  generalize nv (A.drop (i+1))=X at e ⊢
  generalize nv (Q.drop (i+1))=Y at e ⊢
  have e1:X*(2*p)=2*(X*p):=by rw [Int.mul_left_comm]
  have e2:(Y*(2*p)+2*q)*nv B=2*((Y*p+q)*nv B):=by rw [Int.mul_left_comm,←Int.mul_add,Int.mul_assoc]
  rw [e1,e2];omega
theorem divn_no {A B Q L M:List Int} {i m:Nat} (h:DivN A B i (m+1) Q L) (hm:nv M=2*nv L+dgt A i/2^m%2) (hc:Canon M) (hlt:nv M<nv B):DivN A B i m Q M:=by
  obtain ⟨e,dv,_⟩:=divn_bit h hm
  exact ⟨h.li,by have:=h.k16;omega,h.len,h.hz,e,dv,hlt,hc⟩
theorem take_set_le (l:List Int) (i n:Nat) (x:Int) (h:n<=i):(l.set i x).take n=l.take n:=by
  rw [List.take_set];exact List.set_eq_of_length_le (by simp;omega)
theorem dgt_set (l:List Int) (i:Nat) (x:Int) (h:i<l.length):dgt (l.set i x) i=x:=by
  rw [dgt,List.getD_eq_getElem?_getD];simp [h]
theorem divn_yes {A B Q L M N:List Int} {i m:Nat} (hB:0<nv B) (h:DivN A B i (m+1) Q L) (hm:nv M=2*nv L+dgt A i/2^m%2) (hn:nv N=nv M - nv B) (hc:Canon N):DivN A B i m (Q.set i (dgt Q i+2^m)) N:=by
  obtain ⟨e,dv,ev⟩:=divn_bit h hm
  have li:i<Q.length:=by have:=h.li;have:=h.len;omega
  refine ⟨h.li,by have:=h.k16;omega,by simp [h.len],by rw [take_set_le _ _ _ _ (Nat.le_refl _)];exact h.hz,?_,?_,?_,hc⟩
  · rw [drop_set_lt _ _ _ _ (by omega),dgt_set _ _ _ li]
    have e1:(dgt Q i+2^m)/2^m=dgt Q i/2^m+1:=by
      have:=Int.add_mul_ediv_right (dgt Q i) 1 (Int.ne_of_gt (pow2_pos m))
      rwa [Int.one_mul] at this
    rw [e1,e,hn,←Int.add_assoc,Int.add_mul _ 1,Int.one_mul];omega
  · rw [dgt_set _ _ _ li]
    have:=Int.add_mul_emod_self_left (dgt Q i) (2^m) 1
    rw [Int.mul_one] at this;rw [this];exact dv
  · have hL:=h.lt
    have:dgt A i/2^m%2<=1:=by omega
    omega
theorem divn_room {A B Q L:List Int} {i m:Nat} (hQ:Dig Q) (h:DivN A B i (m+1) Q L):0<=dgt Q i+2^m/\dgt Q i+2^m<65536:=by
  have dv:=h.dv
  have k16:=h.k16
  have q0:=(hQ.dgt i).1
  have q1:=(hQ.dgt i).2
  have p0:=pow2_pos m
  refine ⟨by omega,?_⟩
  have hq:dgt Q i=2^(m+1)*(dgt Q i/2^(m+1)):=by
    have:=Int.mul_ediv_add_emod (dgt Q i) (2^(m+1));omega
  have hp:(2:Int)^(m+1)*2^(16 - (m+1))=65536:=by
    rw [←Int.pow_add,show m+1+(16 - (m+1))=16 from by omega];rfl
  generalize hqq:dgt Q i/2^(m+1)=q at hq
  have hlt:q<2^(16 - (m+1)):=by
    refine Int.lt_of_mul_lt_mul_left (a:=2^(m+1)) ?_ (Int.le_of_lt (pow2_pos _))
    omega
  have hle:2^(m+1)*(q+1)<=2^(m+1)*2^(16 - (m+1)):=Int.mul_le_mul_of_nonneg_left (by omega) (Int.le_of_lt (pow2_pos _))
  rw [hp,Int.mul_add,←hq,Int.mul_one,pow2_succ] at hle
  omega
theorem divo_end {A B Q L:List Int} (hL:Dig L) (h:DivO A B 0 Q L):nv Q=nv A/nv B/\nv L=nv A%nv B:=by
  have e:=h.eq
  simp only [List.drop_zero] at e
  have l0:=nv_nonneg hL
  have lt:=h.lt
  have hp:0<nv B:=by omega
  constructor
  · rw [e,Int.add_comm,Int.add_mul_ediv_right _ _ (Int.ne_of_gt hp),Int.ediv_eq_zero_of_lt l0 lt,Int.zero_add]
  · rw [e,Int.add_comm,Int.add_mul_emod_self_right,Int.emod_eq_of_lt l0 lt]
theorem un_eq {k:Nat} (h:k<=16):un k=if k=0 then 0 else 2^(k - 1):=by
  have:k=0∨k=1∨k=2∨k=3∨k=4∨k=5∨k=6∨k=7∨k=8∨k=9∨k=10∨k=11∨k=12∨k=13∨k=14∨k=15∨k=16:=by omega
  rcases this with rfl | rfl | rfl | rfl | rfl | rfl | rfl | rfl | rfl | rfl | rfl | rfl | rfl | rfl | rfl | rfl | rfl<;>rfl
theorem un_succ {m:Nat} (h:m+1<=16):un (m+1)=2^m:=by rw [un_eq h,if_neg (by omega)];rfl
theorem un_half {m:Nat} (h:m+1<=16):un (m+1)/2=un m:=by
  rw [un_succ h,un_eq (by omega)]
  cases m with
  | zero=>rfl
  | succ m=>rw [if_neg (by omega),pow2_succ,show m+1 - 1=m from rfl];omega
theorem un_range {k:Nat} (h:k<=16):0<=un k/\un k<=32768/\(0<un k↔0<k):=by
  have:k=0∨k=1∨k=2∨k=3∨k=4∨k=5∨k=6∨k=7∨k=8∨k=9∨k=10∨k=11∨k=12∨k=13∨k=14∨k=15∨k=16:=by omega
  rcases this with rfl | rfl | rfl | rfl | rfl | rfl | rfl | rfl | rfl | rfl | rfl | rfl | rfl | rfl | rfl | rfl | rfl<;>decide
theorem quo_un {x:Int} {k:Nat} (h:k<=16) (hk:0<k) (x0:0<=x) (x1:x<=9223372036854775807):IntKind.i64.wrap (Int.tdiv x (un k))=x/un k:=by
  obtain ⟨u0,u1,u2⟩:=un_range h
  have hu:=u2.2 hk
  rw [Int.tdiv_eq_ediv_of_nonneg x0]
  have h1:=Int.ediv_nonneg x0 u0
  have h2:=Int.ediv_le_self (un k) x0
  exact wrap_i64 _ (by omega) (by omega)
theorem quo2_i64 {x:Int} (x0:0<=x) (x1:x<=9223372036854775807):IntKind.i64.wrap (Int.tdiv x 2)=x/2:=by
  rw [Int.tdiv_eq_ediv_of_nonneg x0];exact wrap_i64 _ (by omega) (by omega)
theorem canon_lt {L B:List Int} (hL:Dig L) (hc:Canon L) (hB:Dig B) (h:nv L<nv B):L.length<=B.length:=canon_len hL hc (Int.lt_trans h (nv_lt hB))
theorem wit_rdiv {a b:Int} (ha:0<=a) (hb:0<b): ∃x:Row×Row,(fun zx:Row×Row=>RowOK zx.1/\RowOK zx.2/\nv (dg zx.1)=a/b/\nv (dg zx.2)=a%b/\Canon (dg zx.1)/\Canon (dg zx.2)) x:=by
  obtain ⟨x,h1,h2,h3⟩:=wit_row (Int.ediv_nonneg ha (Int.le_of_lt hb))
  obtain ⟨y,k1,k2,k3⟩:=wit_row (Int.emod_nonneg a (Int.ne_of_gt hb))
  exact ⟨(x,y),h1,k1,h2,k2,h3,k3⟩
def lb (A:List Int) (n j:Nat):Int:=nv ((A.drop (max n (4*j))).take (4*j+4 - max n (4*j)))
theorem lb_top (A:List Int) (j:Nat):lb A A.length j=0:=by
  unfold lb
  rw [List.drop_of_length_le (Nat.le_max_left _ _),List.take_nil];rfl
theorem lb_other (A:List Int) {n j:Nat} (h:n/4≠j):lb A (n+1) j=lb A n j:=by
  unfold lb
  rcases Nat.lt_or_ge n (4*j) with h1 | h1
  · rw [Nat.max_eq_right (by omega),Nat.max_eq_right (by omega)]
  · have e1:4*j+4 - max (n+1) (4*j)=0:=by omega
    have e2:4*j+4 - max n (4*j)=0:=by omega
    rw [e1,e2];rfl
theorem lb_same (A:List Int) {n:Nat} (h:n<A.length) {j:Nat} (hj:n/4=j):lb A n j=65536*lb A (n+1) j+dgt A n:=by
  unfold lb
  have m1:max n (4*j)=n:=by omega
  have m2:max (n+1) (4*j)=n+1:=by omega
  rw [m1,m2,show 4*j+4 - n=(4*j+4 - (n+1))+1 from by omega]
  have e:A.drop n=dgt A n::A.drop (n+1):=by
    rw [dgt,List.getD_eq_getElem?_getD,List.getElem?_eq_getElem h];simp
  rw [e,List.take_succ_cons]
  simp only [nv];omega
theorem lb_range {A:List Int} (h:Dig A) (n j:Nat):0<=lb A n j/\lb A n j<P16 (4*j+4 - max n (4*j)):=by
  unfold lb
  exact nv_take_lt (h.drop _) _
theorem lb_W {A:List Int} (h:Dig A) (n j:Nat):W (lb A n j):=by
  obtain ⟨h0,h1⟩:=lb_range h n j
  refine ⟨h0,Int.lt_of_lt_of_le h1 ?_⟩
  exact Int.le_trans (P16_mono (by omega:_<=4)) (by decide)
theorem lb_all {A:List Int} (h:A.length<=16):lb A 0 0+18446744073709551616*(lb A 0 1+18446744073709551616*(lb A 0 2+18446744073709551616*(lb A 0 3+18446744073709551616*0)))=nv A:=by
  unfold lb
  simp only [Nat.zero_max,Nat.mul_zero,Nat.zero_add,Nat.sub_zero,List.drop_zero]
  have e1:=nv_split' A 4
  have e2:=nv_split' (A.drop 4) 4
  have e3:=nv_split' ((A.drop 4).drop 4) 4
  have e4:nv (((A.drop 4).drop 4).drop 4)=nv ((A.drop 12).take 4):=by
    rw [List.drop_drop,List.drop_drop,List.take_of_length_le (by simp;omega)]
  rw [show P16 4=18446744073709551616 from rfl] at e1 e2 e3
  rw [e4] at e3
  simp only [List.drop_drop] at e1 e2 e3
  simp only [show 4*1=4 from rfl,show 4*2=8 from rfl,show 4*3=12 from rfl,show 4+4=8 from rfl,show 8+4=12 from rfl,show 12+4=16 from rfl,show 8 - 4=4 from rfl,show 12 - 8=4 from rfl,show 16 - 12=4 from rfl] at e1 e2 e3 ⊢
  omega
def rInt (n:Int):Int×Bool:=if n<115792089237316195423570985008687907853269984665640564039457584007913129639936 then (n,true) else (0,false)
theorem rInt_R {n:Int} (h:0<=n):R4 (rInt n).1:=by unfold rInt R4;split<;>dsimp only<;>omega
theorem rInt_long {A:List Int} (hA:Dig A) (hc:Canon A) (h:16<A.length):rInt (nv A)=(0,false):=by
  unfold rInt
  rw [if_neg]
  intro hlt
  have:=canon_len hA hc (k:=16) (by rw [show P16 16=115792089237316195423570985008687907853269984665640564039457584007913129639936 from rfl];exact hlt)
  omega
theorem rInt_short {A:List Int} (hA:Dig A) (h:A.length<=16):rInt (nv A)=(nv A,true):=by
  unfold rInt
  rw [if_pos]
  exact Int.lt_of_lt_of_le (nv_lt hA) (Int.le_trans (P16_mono h) (by decide))
end Go.Sx
namespace Go.Sx
theorem hCmp_ge {a b c:Int} (h:c=hCmp a b) (hc:c≥0):b<=a:=by
  unfold hCmp at h
  rcases Int.lt_or_le a b with h' | h'
  · rw [if_pos h'] at h;omega
  · exact h'
theorem hCmp_nge {a b c:Int} (h:c=hCmp a b) (hc: ¬c≥0):a<b:=by
  unfold hCmp at h
  rcases Int.lt_or_le a b with h' | h'
  · exact h'
  · rw [if_neg (by omega)] at h;split at h<;>omega
theorem canon_len2 {L B:List Int} (hL:Dig L) (hc:Canon L) (hB:Dig B) (h:nv L<4*nv B):L.length<=B.length+3:=by
  refine Nat.le_trans (canon_len hL hc (k:=B.length+1) ?_) (by omega)
  have h1:=nv_lt hB
  rw [P16_succ]
  have:=P16_pos B.length
  omega
theorem quo4_i64 {x:Int} {c:Int} (x0:0<=x) (x1:x<=9223372036854775807) (h:x/4=c):IntKind.i64.wrap (Int.tdiv x 4)=c:=by
  rw [Int.tdiv_eq_ediv_of_nonneg x0,←h];exact wrap_i64 _ (by omega) (by omega)
theorem lb_vI {A:List Int} (h:Dig A) (hl:A.length<=16):Value.agg #[.int .u64 (lb A 0 0), .int .u64 (lb A 0 1), .int .u64 (lb A 0 2), .int .u64 (lb A 0 3)]=vI (nv A):=by
  have e:num (.agg #[.int .u64 (lb A 0 0), .int .u64 (lb A 0 1), .int .u64 (lb A 0 2), .int .u64 (lb A 0 3)])=nv A:=lb_all hl
  rw [←e];exact (vI_num4 (lb_W h 0 0) (lb_W h 0 1) (lb_W h 0 2) (lb_W h 0 3)).symm
theorem lb_step {A:List Int} (h:Dig A) {x:Nat} (hx:0<x) (hl:x<=A.length) {c:Nat} (hc:(x - 1)/4=c):
    lb A (x - 1) c=lb A x c*65536+dgt A (x - 1)/\W (lb A x c*65536)/\W (lb A x c*65536+dgt A (x - 1))/\ ∀j,j≠c->lb A (x - 1) j=lb A x j:=by
  have e:=lb_same A (n:=x - 1) (by omega) hc
  rw [show x - 1+1=x from by omega] at e
  have w:=lb_W h (x - 1) c
  have d:=h.dgt (x - 1)
  have w0:=lb_W h x c
  unfold W at *
  refine ⟨by omega,by omega,by omega,fun j hj=> ?_⟩
  have:=lb_other A (n:=x - 1) (j:=j) (by omega)
  rw [show x - 1+1=x from by omega] at this
  exact this.symm
theorem rInt_cases {n:Int} {x:Int×Bool} (h:x=rInt n):(x.2=true->n<115792089237316195423570985008687907853269984665640564039457584007913129639936/\x.1=n)/\(x.2=false->115792089237316195423570985008687907853269984665640564039457584007913129639936<=n):=by
  unfold rInt at h
  split at h<;>subst h
  · rename_i h;exact ⟨fun _=>⟨h,rfl⟩,fun h=>Bool.noConfusion h⟩
  · rename_i h;exact ⟨fun h=>Bool.noConfusion h,fun _=>by omega⟩
theorem quo_R8 {p d:Int} (h:R8 p) (hd:0<d):R8 (p/d):=by
  have:=Int.ediv_nonneg h.1 (Int.le_of_lt hd)
  have:=Int.ediv_le_self d h.1
  unfold R8 at *;omega
theorem len41 {l:List Int} {n:Int} (hd:Dig l) (hc:Canon l) (hn:nv l=n+1) (h:R8 n):l.length<=65:=by
  refine canon_len hd hc ?_
  have h1:=wide_num h
  rw [hn]
  refine Int.lt_of_lt_of_le (Int.add_lt_add_right h1 1) (by decide)
theorem not_t {b:Bool} (h:(!b)=true):b=false:=by cases b<;>first | rfl | cases h
theorem not_f {b:Bool} (h:(!b)=false):b=true:=by cases b<;>first | rfl | cases h
end Go.Sx
namespace Go.Sx
end Go.Sx
namespace Go.Sx
theorem hAdd_cases {a b:Int} {x:Int×Int} (h:x=hAdd a b):(x.2=0/\x.1=a+b/\a+b<115792089237316195423570985008687907853269984665640564039457584007913129639936)∨(x.2=2/\x.1=0/\115792089237316195423570985008687907853269984665640564039457584007913129639936<=a+b):=by
  subst h;unfold hAdd;split
  · exact .inl ⟨rfl,rfl,by assumption⟩
  · exact .inr ⟨rfl,rfl,by omega⟩
theorem hSub_cases {a b:Int} {x:Int×Int} (h:x=hSub a b):(x.2=0/\x.1=a - b/\b<=a)∨(x.2=2/\x.1=0/\a<b):=by
  subst h;unfold hSub;split
  · exact .inl ⟨rfl,rfl,by assumption⟩
  · exact .inr ⟨rfl,rfl,by omega⟩
theorem wMulDiv_cases {a b d:Int} {x:Int×Int} (h:x=wMulDiv a b d) (hd:0<d):(x.2=0/\x.1=a*b/d/\a*b/d<115792089237316195423570985008687907853269984665640564039457584007913129639936)∨(x.2=2/\x.1=0/\115792089237316195423570985008687907853269984665640564039457584007913129639936<=a*b/d):=by
  subst h;unfold wMulDiv wNar
  rw [if_neg (by omega)];split
  · exact .inl ⟨rfl,rfl,by assumption⟩
  · exact .inr ⟨rfl,rfl,by omega⟩
theorem hCmp_pos {a b:Int}:(0<hCmp a b)=(b<a):=by
  unfold hCmp;apply propext;constructor
  · intro h;split at h
    · omega
    · split at h<;>omega
  · intro h;rw [if_neg (by omega),if_pos h];decide
theorem hCmp_neg {a b:Int}:(hCmp a b<0)=(a<b):=by
  unfold hCmp;apply propext;constructor
  · intro h;split at h
    · assumption
    · split at h<;>omega
  · intro h;rw [if_pos h];decide
theorem hCmp_le0 {a b:Int}:(hCmp a b<=0)=(a<=b):=by
  have h:(hCmp a b<=0)= ¬ (0<hCmp a b):=by apply propext;omega
  rw [h,hCmp_pos];apply propext;omega
theorem hCmp_ge0 {a b:Int}:(0<=hCmp a b)=(b<=a):=by
  have h:(0<=hCmp a b)= ¬ (hCmp a b<0):=by apply propext;omega
  rw [h,hCmp_neg];apply propext;omega
theorem hCmp_split {a b c:Int} (h:c=hCmp a b):(0<c↔b<a)/\(c<0↔a<b):=by subst h;rw [hCmp_pos,hCmp_neg];exact ⟨Iff.rfl,Iff.rfl⟩
theorem canon16 {l:List Int} (hd:Dig l) (hc:Canon l):l.length<=16↔nv l<115792089237316195423570985008687907853269984665640564039457584007913129639936:=by
  constructor
  · intro h;exact Int.lt_of_lt_of_le (nv_lt hd) (Int.le_trans (P16_mono h) (by decide))
  · intro h;exact canon_len hd hc (by rw [show P16 16=115792089237316195423570985008687907853269984665640564039457584007913129639936 from rfl];exact h)
def sMore (a b:Int):Int×Int×Int:=((hAdd a 1).1,(hAdd b 1).1,if (hAdd b 1).2>(hAdd a 1).2 then (hAdd b 1).2 else (hAdd a 1).2)
theorem sMore_R {a b:Int} (ha:R4 a) (hb:R4 b):R4 (sMore a b).1/\R4 (sMore a b).2.1:=⟨hAdd_R ha R4_one,hAdd_R hb R4_one⟩
theorem sMore_cases {a b:Int} {x:Int×Int×Int} (h:x=sMore a b):
    (x.2.2=0/\x.1=a+1/\x.2.1=b+1/\a+1<115792089237316195423570985008687907853269984665640564039457584007913129639936/\b+1<115792089237316195423570985008687907853269984665640564039457584007913129639936)∨
    (x.2.2=2/\(115792089237316195423570985008687907853269984665640564039457584007913129639936<=a+1∨115792089237316195423570985008687907853269984665640564039457584007913129639936<=b+1)):=by
  subst h
  rcases hAdd_cases (a:=a) (b:=1) rfl with ⟨h1,h2,h3⟩ | ⟨h1,h2,h3⟩<;>rcases hAdd_cases (a:=b) (b:=1) rfl with ⟨k1,k2,k3⟩ | ⟨k1,k2,k3⟩
  · refine .inl ⟨?_,h2,k2,h3,k3⟩;simp only [sMore,h1,k1];rfl
  · refine .inr ⟨?_, .inr k3⟩;simp only [sMore,h1,k1];rfl
  · refine .inr ⟨?_, .inl h3⟩;simp only [sMore,h1,k1];rfl
  · refine .inr ⟨?_, .inl h3⟩;simp only [sMore,h1,k1];rfl
def sIn (A S n:Int):Int×Int:=
  if n=0 then (0,3) else
  if 115792089237316195423570985008687907853269984665640564039457584007913129639936<=A+1∨115792089237316195423570985008687907853269984665640564039457584007913129639936<=S+1 then (0,2) else
  if 115792089237316195423570985008687907853269984665640564039457584007913129639936<=n*(S+1)/(A+1) then (0,2) else
  if n*(S+1)/(A+1)=0 then (0,3) else
  if 115792089237316195423570985008687907853269984665640564039457584007913129639936<=A+n∨115792089237316195423570985008687907853269984665640564039457584007913129639936<=S+n*(S+1)/(A+1) then (0,2) else
  (n*(S+1)/(A+1),0)
def sOut (A S s:Int):Int×Int:=
  if s=0 then (0,3) else if S<s then (0,8) else
  if 115792089237316195423570985008687907853269984665640564039457584007913129639936<=A+1∨115792089237316195423570985008687907853269984665640564039457584007913129639936<=S+1 then (0,2) else
  if 115792089237316195423570985008687907853269984665640564039457584007913129639936<=s*(A+1)/(S+1) then (0,2) else
  if A<s*(A+1)/(S+1) then (0,8) else
  (s*(A+1)/(S+1),0)
theorem quo_nonneg {n p q:Int} (h0:0<=n) (h1:0<=p) (h2:0<=q):0<=n*(p+1)/(q+1):=Int.ediv_nonneg (Int.mul_nonneg h0 (by omega)) (by omega)
theorem sIn_R {A S n:Int} (hA:R4 A) (hS:R4 S) (hn:R4 n):R4 (sIn A S n).1:=by
  have:=quo_nonneg hn.1 hS.1 hA.1
  unfold sIn R4
  (repeat' split)<;>dsimp only<;>omega
theorem sOut_R {A S n:Int} (hA:R4 A) (hS:R4 S) (hn:R4 n):R4 (sOut A S n).1:=by
  have:=quo_nonneg hn.1 hA.1 hS.1
  unfold sOut R4
  (repeat' split)<;>dsimp only<;>omega
theorem sIn_cases {A S n:Int} {x:Int×Int} (h:x=sIn A S n):
    (x.2=0/\x.1=n*(S+1)/(A+1)/\x.1≠0/\n≠0/\A+n<115792089237316195423570985008687907853269984665640564039457584007913129639936/\S+x.1<115792089237316195423570985008687907853269984665640564039457584007913129639936)∨(x.2≠0/\x.1=0):=by
  subst h;unfold sIn
  (repeat' split)<;>first
    | exact .inr ⟨by decide,rfl⟩
    | (refine .inl ⟨rfl,rfl,?_,?_,?_,?_⟩<;>(try dsimp only)<;>omega)
theorem sOut_cases {A S n:Int} {x:Int×Int} (h:x=sOut A S n):
    (x.2=0/\x.1=n*(A+1)/(S+1)/\n<=S/\n≠0/\x.1<=A)∨(x.2≠0/\x.1=0/\(x.2=2∨n=0∨S<n∨A<n*(A+1)/(S+1))):=by
  subst h;unfold sOut
  (repeat' split)<;>first
    | (refine .inr ⟨by decide,rfl,?_⟩;dsimp only;omega)
    | (refine .inl ⟨rfl,rfl,?_,?_,?_⟩<;>(try dsimp only)<;>omega)
theorem R48 {n:Int} (h:R4 n):R8 n:=by unfold R4 at h;unfold R8;omega
theorem wit_one {n:Int} (h:R4 n): ∃x:Row,(fun zx=>RowOK zx/\nv (dg zx)=n+1/\Canon (dg zx)/\(dg zx).length<=65) x:=by
  obtain ⟨x,h1,h2,h3⟩:=wit_row (n:=n+1) (by have:=h.1;omega)
  exact ⟨x,h1,h2,h3,len41 h1.dig h3 h2 (R48 h)⟩
theorem rdx:(∀n,R4 n->num (vI n)=n)/\(∀a b,(0<hCmp a b)=(b<a))/\(∀a b,(hCmp a b<0)=(a<b))/\(∀a b,(hCmp a b<=0)=(a<=b))/\(∀a b,(0<=hCmp a b)=(b<=a))/\
    (∀ (p:Prop) [Decidable p],(decide p=true)=p)/\(∀ (p:Prop) [Decidable p],(decide p=false)= ¬p)/\(∀a b:Int,(a>b)=(b<a))/\(∀a b:Int,(a≥b)=(b<=a))/\(∀a b:Nat,(a>b)=(b<a))/\(∀a b:Nat,(a≥b)=(b<=a))/\
    (∀ {α:Type} [BEq α] [LawfulBEq α] (a b:α),((a==b)=true)=(a=b))/\(∀ {α:Type} [BEq α] [LawfulBEq α] (a b:α),((a==b)=false)= ¬a=b)/\(∀ {α:Type} [BEq α] [LawfulBEq α] (a b:α),((a !=b)=true)= ¬a=b)/\(∀ {α:Type} [BEq α] [LawfulBEq α] (a b:α),((a !=b)=false)=(a=b))/\(∀ {α:Type} (a b:α),(a≠b)= ¬a=b):=by
  refine ⟨fun n h=>num_vI h,fun _ _=>hCmp_pos,fun _ _=>hCmp_neg,fun _ _=>hCmp_le0,fun _ _=>hCmp_ge0,fun p _=>by simp,fun p _=>by simp,fun _ _=>rfl,fun _ _=>rfl,fun _ _=>rfl,fun _ _=>rfl,?_,?_,?_,?_,fun _ _=>rfl⟩
  · intro α _ _ a b;simp
  · intro α _ _ a b;simp
  · intro α _ _ a b;simp
  · intro α _ _ a b;simp
end Go.Sx
namespace Go.Sx
theorem keep_in {A S n s:Int} (hA:0<=A) (hS:0<=S) (hn:0<=n) (hle:S<=A) (hs:s=n*(S+1)/(A+1)):
    0<=s/\S+s<=A+n/\(A+1)*(S+s+1)<=(A+n+1)*(S+1):=by
  have h0:0<=s:=by rw [hs];exact quo_nonneg hn hS hA
  have h1:s*(A+1)<=n*(S+1):=by rw [hs];exact Int.ediv_mul_le _ (by omega)
  have h2:s<=n:=by
    have:n*(S+1)<=n*(A+1):=Int.mul_le_mul_of_nonneg_left (by omega) hn
    have:=Int.ediv_le_ediv (by omega:0<A+1) this
    rw [Int.mul_ediv_cancel _ (by omega:A+1≠0)] at this
    omega
  refine ⟨h0,by omega,?_⟩
  have e1:(A+1)*(S+s+1)=(A+1)*(S+1)+s*(A+1):=by rw [Int.mul_comm s,←Int.mul_add];congr 1;omega
  have e2:(A+n+1)*(S+1)=(A+1)*(S+1)+n*(S+1):=by rw [←Int.add_mul];congr 1;omega
  omega
theorem keep_out {A S n p:Int} (hA:0<=A) (hS:0<=S) (hn:0<=n) (hle:S<=A) (hnS:n<=S) (hp:p=n*(A+1)/(S+1)):
    0<=p/\S - n<=A - p/\(A+1)*(S - n+1)<=(A - p+1)*(S+1):=by
  have h0:0<=p:=by rw [hp];exact quo_nonneg hn hA hS
  have h1:p*(S+1)<=n*(A+1):=by rw [hp];exact Int.ediv_mul_le _ (by omega)
  refine ⟨h0,?_,?_⟩
  · have h2:n*(A - S)<=(S+1)*(A - S):=Int.mul_le_mul_of_nonneg_right (by omega) (by omega)
    have e1:n*(A+1)=n*(A - S)+n*(S+1):=by rw [←Int.mul_add];congr 1;omega
    have e2:(S+1)*(A - S)=(A - S)*(S+1):=Int.mul_comm _ _
    have e3:(A - S+n)*(S+1)=(A - S)*(S+1)+n*(S+1):=Int.add_mul ..
    have h3:p*(S+1)<=(A - S+n)*(S+1):=by omega
    have:=Int.le_of_mul_le_mul_right h3 (by omega)
    omega
  · have e1:(A - p+1)*(S+1)=(A+1)*(S+1) - p*(S+1):=by rw [←Int.sub_mul];congr 1;omega
    have e2:(A+1)*(S - n+1)=(A+1)*(S+1) - n*(A+1):=by rw [Int.mul_comm n,←Int.mul_sub];congr 1;omega
    omega
end Go.Sx
namespace Go.Sx
open Go.RowKit
def Hl.emp:Hl:=fun _=>none
def Hl.un (p q:Hl):Hl:=fun b=>match p b with | some o=>some o | none=>q b
theorem un_some {p q:Hl} {b:Nat} {o:Obj} (h:Hl.un p q b=some o):p b=some o∨q b=some o:=by
  unfold Hl.un at h
  cases hp:p b with
  | some x=>rw [hp] at h;exact .inl h
  | none=>rw [hp] at h;exact .inr h
theorem un_left {p q:Hl} {b:Nat} {o:Obj} (h:p b=some o):Hl.un p q b=some o:=by unfold Hl.un;rw [h]
theorem un_right {p q:Hl} (d:p.disj q) {b:Nat} {o:Obj} (h:q b=some o):Hl.un p q b=some o:=by
  unfold Hl.un
  rcases d b with h' | h'
  · rw [h'];exact h
  · rw [h] at h';cases h'
theorem un_none {p q:Hl} {b:Nat} (h:p b=none) (k:q b=none):Hl.un p q b=none:=by unfold Hl.un;rw [h];exact k
theorem un_none_iff {p q:Hl} {b:Nat}:Hl.un p q b=none↔p b=none/\q b=none:=by
  constructor
  · intro h
    unfold Hl.un at h
    cases hp:p b with
    | some x=>rw [hp] at h;cases h
    | none=>rw [hp] at h;exact ⟨rfl,h⟩
  · exact fun h=>un_none h.1 h.2
theorem disj_symm {p q:Hl} (h:p.disj q):q.disj p:=fun b=>(h b).symm
theorem disj_un {p q r:Hl}:(Hl.un p q).disj r↔p.disj r/\q.disj r:=by
  constructor
  · intro h
    refine ⟨fun b=> ?_,fun b=> ?_⟩<;>rcases h b with h' | h'
    · exact .inl (un_none_iff.1 h').1
    · exact .inr h'
    · exact .inl (un_none_iff.1 h').2
    · exact .inr h'
  · intro ⟨h1,h2⟩ b
    rcases h1 b with a | a
    · rcases h2 b with c | c
      · exact .inl (un_none a c)
      · exact .inr c
    · exact .inr a
theorem disj_un' {p q r:Hl}:r.disj (Hl.un p q)↔r.disj p/\r.disj q:=
  ⟨fun h=>let ⟨a,b⟩:=disj_un.1 (disj_symm h);⟨disj_symm a,disj_symm b⟩,fun ⟨a,b⟩=>disj_symm (disj_un.2 ⟨disj_symm a,disj_symm b⟩)⟩
theorem disj_emp {p:Hl}:p.disj Hl.emp:=fun _=> .inr rfl
theorem un_emp {p:Hl}:Hl.un p Hl.emp=p:=by funext b;unfold Hl.un;cases p b<;>rfl
theorem emp_un {p:Hl}:Hl.un Hl.emp p=p:=rfl
theorem un_assoc {p q r:Hl}:Hl.un (Hl.un p q) r=Hl.un p (Hl.un q r):=by
  funext b;unfold Hl.un;cases p b<;>simp
theorem un_comm {p q:Hl} (d:p.disj q):Hl.un p q=Hl.un q p:=by
  funext b
  unfold Hl.un
  rcases d b with h | h<;>rw [h]
  · cases q b<;>rfl
  · cases p b<;>rfl
theorem inw_un {p q:Hl} {w:World} (h:p.inw w) (k:q.inw w):(Hl.un p q).inw w:=fun b o hb=>(un_some hb).elim (h b o) (k b o)
theorem inw_left {p q:Hl} {w:World} (h:(Hl.un p q).inw w):p.inw w:=fun b o hb=>h b o (un_left hb)
theorem inw_right {p q:Hl} {w:World} (d:p.disj q) (h:(Hl.un p q).inw w):q.inw w:=fun b o hb=>h b o (un_right d hb)
def SepL:List Slot->Hl->Prop
  | [],h=>h=Hl.emp
  | s::l,h=> ∃p q,s.sat p/\SepL l q/\p.disj q/\h=Hl.un p q
theorem sep_append: ∀ (a b:List Slot) {h:Hl},SepL (a++b) h↔ ∃p q,SepL a p/\SepL b q/\p.disj q/\h=Hl.un p q
  | [],b,h=>⟨fun hb=>⟨Hl.emp,h,rfl,hb,fun _=> .inl rfl,rfl⟩,fun ⟨p,q,hp,hq,_,e⟩=>by cases hp;subst e;exact hq⟩
  | s :: a, b, h => by
    constructor
    · rintro ⟨p,q,hs,hr,d,rfl⟩
      obtain ⟨p2,q2,ha,hb,d2,rfl⟩:=(sep_append a b).1 hr
      have d' :=disj_un'.1 d
      exact ⟨Hl.un p p2,q2,⟨p,p2,hs,ha,d'.1,rfl⟩,hb,disj_un.2 ⟨d'.2,d2⟩,un_assoc.symm⟩
    · rintro ⟨p,q,⟨p1,p2,hs,ha,d1,rfl⟩,hb,d,rfl⟩
      have d' :=disj_un.1 d
      exact ⟨p1,Hl.un p2 q,hs,(sep_append a b).2 ⟨p2,q,ha,hb,d'.2,rfl⟩,disj_un'.2 ⟨d1,d'.1⟩,un_assoc⟩
theorem sep_swap {a b:List Slot} {h:Hl} (k:SepL (a++b) h):SepL (b++a) h:=by
  obtain ⟨p,q,hp,hq,d,rfl⟩:=(sep_append a b).1 k
  exact (sep_append b a).2 ⟨q,p,hq,hp,disj_symm d,un_comm d⟩
theorem own_sep : ∀ {l : List Slot} {R : HP} {w : World}, Own (ofList l) R w ↔ ∃ h q, SepL l h /\ R q /\ h.inw w /\ q.inw w /\ h.disj q
  | [], R, w => by
    constructor
    · rintro ⟨p,q,hs,hq,hp,hqw,hd,hdq⟩
      exact ⟨Hl.emp,q,rfl,hq,fun b o hb=>(by cases hb),hqw,fun _=> .inl rfl⟩
    · rintro ⟨h,q,_,hq,_,hqw,_⟩
      exact ⟨fun _ _=>none,q,fun i=>fun _=>rfl,hq,fun i b o hb=>(by cases hb),hqw,fun i j _ b=> .inl rfl,fun i b=> .inl rfl⟩
  | s :: l, R, w => by
    constructor
    · rintro ⟨p,q,hs,hq,hp,hqw,hd,hdq⟩
      have:Own (ofList l) (fun q' => ∃q0,R q0/\q' =Hl.un (p 0) q0/\q0.inw w/\(p 0).disj q0) w:=by
        refine ⟨fun i=>p (i+1),Hl.un (p 0) q,fun i=>hs (i+1),⟨q,hq,rfl,hqw,hdq 0⟩,fun i=>hp (i+1),inw_un (hp 0) hqw,fun i j h=>hd _ _ (fun e=>h (Nat.succ.inj e)),fun i=>disj_un'.2 ⟨hd _ _ (by omega),hdq _⟩⟩
      obtain ⟨h,q',hl,⟨q0,hq0,rfl,hq0w,d0⟩,hw,hqw',d⟩:=own_sep.1 this
      have d' :=disj_un'.1 d
      exact ⟨Hl.un (p 0) h,q0,⟨p 0,h,hs 0,hl,disj_symm d'.1,rfl⟩,hq0,inw_un (hp 0) hw,hq0w,disj_un.2 ⟨d0,d'.2⟩⟩
    · rintro ⟨h,q,⟨p,h',hs,hl,d,rfl⟩,hq,hw,hqw,dq⟩
      have dq' :=disj_un.1 dq
      have:Own (ofList l) (fun q' =>q' =Hl.un p q) w:=own_sep.2 ⟨h',Hl.un p q,hl,rfl,inw_right d hw,inw_un (inw_left hw) hqw,disj_un'.2 ⟨disj_symm d,dq'.2⟩⟩
      obtain ⟨pp,q2,hs2,rfl,hp2,hq2,hd2,hdq2⟩:=this
      refine ⟨fun i=>match i with | 0=>p | i+1=>pp i,q,fun i=> ?_,hq,fun i=> ?_,hqw,fun i j hij=> ?_,fun i=> ?_⟩
      · cases i with
        | zero=>exact hs
        | succ i=>exact hs2 i
      · cases i with
        | zero=>exact inw_left hw
        | succ i=>exact hp2 i
      · cases i with
        | zero =>
          cases j with
          | zero=>exact absurd rfl hij
          | succ j=>exact disj_symm (disj_un'.1 (hdq2 j)).1
        | succ i =>
          cases j with
          | zero=>exact (disj_un'.1 (hdq2 i)).1
          | succ j=>exact hd2 i j (fun e=>hij (e▸rfl))
      · cases i with
        | zero=>exact dq'.1
        | succ i=>exact (disj_un'.1 (hdq2 i)).2
def Imp (a b:List Slot):Prop:= ∀ (R:HP) (w:World),Own (ofList a) R w->Own (ofList b) R w
theorem Imp.of {a b:List Slot} (h: ∀p,SepL a p-> ∃q,SepL b q/\ ∀x o,q x=some o->p x=some o):Imp a b:=by
  intro R w ho
  obtain ⟨p,r,hp,hr,hpw,hrw,d⟩:=own_sep.1 ho
  obtain ⟨q,hq,hsub⟩:=h p hp
  refine own_sep.2 ⟨q,r,hq,hr,fun b o hb=>hpw b o (hsub b o hb),hrw,fun b=> ?_⟩
  rcases d b with h' | h'
  · left
    cases hqb:q b with
    | none=>rfl
    | some o=>rw [hsub b o hqb] at h';cases h'
  · exact .inr h'
theorem Imp.same {a b:List Slot} (h: ∀p,SepL a p->SepL b p):Imp a b:= .of fun p hp=>⟨p,h p hp,fun _ _ h=>h⟩
theorem Imp.refl (a:List Slot):Imp a a:=fun _ _ h=>h
theorem Imp.trans {a b c:List Slot} (h:Imp a b) (k:Imp b c):Imp a c:=fun R w x=>k R w (h R w x)
theorem Imp.swap (a b:List Slot):Imp (a++b) (b++a):= .same fun _=>sep_swap
theorem Imp.drop (a b:List Slot):Imp (a++b) a:= .of fun p hp=>by
  obtain ⟨p,q,ha,hb,d,rfl⟩:=(sep_append a b).1 hp
  exact ⟨p,ha,fun x o h=>un_left h⟩
def bun {E:Type} (ns:List Nat) (d:Dat) (F:E->List Slot):Slot:= .par ns d (fun h=> ∃e,SepL (F e) h)
theorem bun_shut {E:Type} {ns:List Nat} {d:Dat} {F:E->List Slot} (e:E) (l:List Slot):Imp (F e++l) (bun ns d F::l):= .same fun p hp=>by
  obtain ⟨p,q,ha,hb,d,rfl⟩:=(sep_append _ _).1 hp
  exact ⟨p,q,⟨e,ha⟩,hb,d,rfl⟩
theorem bun_open {E:Type} {ns:List Nat} {d:Dat} {F:E->List Slot} {l:List Slot} {R:HP} {w:World} (h:Own (ofList (bun ns d F::l)) R w): ∃e,Own (ofList (F e++l)) R w:=by
  obtain ⟨h,q,⟨p,h',⟨e,hs⟩,hl,d,rfl⟩,hq,hw,hqw,dq⟩:=own_sep.1 h
  exact ⟨e,own_sep.2 ⟨_,q,(sep_append _ _).2 ⟨p,h',hs,hl,d,rfl⟩,hq,hw,hqw,dq⟩⟩
theorem own_frame {a b:List Slot} {R:HP} {w:World}:Own (ofList (a++b)) R w↔Own (ofList a) (fun q=> ∃h r,SepL b h/\R r/\h.disj r/\q=Hl.un h r) w:=by
  constructor
  · intro ho
    obtain ⟨h,q,hab,hq,hw,hqw,d⟩:=own_sep.1 ho
    obtain ⟨p1,p2,ha,hb,d12,rfl⟩:=(sep_append a b).1 hab
    have dd:=disj_un.1 d
    exact own_sep.2 ⟨p1,Hl.un p2 q,ha,⟨p2,q,hb,hq,dd.2,rfl⟩,inw_left hw,inw_un (inw_right d12 hw) hqw,disj_un'.2 ⟨d12,dd.1⟩⟩
  · intro ho
    obtain ⟨p1,q,ha,⟨p2,r,hb,hr,dr,rfl⟩,hw,hqw,d⟩:=own_sep.1 ho
    have dd:=disj_un'.1 d
    exact own_sep.2 ⟨Hl.un p1 p2,r,(sep_append a b).2 ⟨p1,p2,ha,hb,dd.1,rfl⟩,hr,inw_un hw (inw_left hqw),inw_right dr hqw,disj_un.2 ⟨dd.2,dr⟩⟩
theorem CallT.frame {P:Program} {f:FuncId} {args:Array Value} {Hs:List Slot} {X:Type} {val:X->Value} {us:X->List Slot} {Φ:X->Prop} (h:CallT P f args Hs X val us Φ) (l:List Slot):
    CallT P f args (Hs++l) X val (fun x=>us x++l) Φ:=
  ⟨h.enter,fun R w ho=>(h.calls _ w (own_frame.1 ho)).mono fun _ _ ⟨x,hx,he,ho',hext⟩=>⟨x,hx,he,own_frame.2 ho',hext⟩⟩
theorem CallT.exists {P:Program} {f:FuncId} {args:Array Value} {Hs:List Slot} {X Y:Type} {val:X->Value} {us:X->List Slot} {Φ:X->Prop} {val' :Y->Value} {us' :Y->List Slot} {Ψ:Y->Prop}
    (h:CallT P f args Hs X val us Φ) (hk: ∀x,Φ x-> ∃y,Ψ y/\val x=val' y/\Imp (us x) (us' y)):CallT P f args Hs Y val' us' Ψ:=
  ⟨h.enter,fun R w hw=>(h.calls R w hw).mono fun _ _ ⟨x,hx,he,ho,hext⟩=>let ⟨y,hy,h1,h2⟩:=hk x hx;⟨y,hy,h1▸he,h2 _ _ ho,hext⟩⟩
end Go.Sx
namespace Go.Sx
open Go.RowKit
abbrev KV:=List (Value×Value)
noncomputable instance decValue:DecidableEq Value:=fun _ _=>Classical.propDecidable _
def kvs (es:Array MapEntry):KV:=es.toList.map fun e=>(e.key,e.val)
def Born (es:Array MapEntry) (clock:Nat):Prop:=(es.toList.map (·.born)).Nodup/\ ∀e∈es.toList,e.born<clock
theorem Born.push {es:Array MapEntry} {clock:Nat} (h:Born es clock) (k v:Value):Born (es.push { key:=k,val:=v,born:=clock }) (clock+1):=by
  refine ⟨?_,fun e he=> ?_⟩
  · rw [Array.toList_push,List.map_append,List.nodup_append]
    refine ⟨h.1,by simp,fun a ha b hb=> ?_⟩
    simp at hb;subst hb
    obtain ⟨e,he,rfl⟩:=List.mem_map.1 ha
    exact Nat.ne_of_lt (h.2 e he)
  · rw [Array.toList_push] at he
    rcases List.mem_append.1 he with he | he
    · exact Nat.lt_succ_of_lt (h.2 e he)
    · simp at he;subst he;exact Nat.lt_succ_self _
theorem modify_born {f:MapEntry->MapEntry} (hf: ∀y,(f y).born=y.born): ∀ (l:List MapEntry) (i:Nat),(l.modify i f).map (·.born)=l.map (·.born)
  | [],i=>by simp
  | x::l,0=>by simp [hf]
  | x::l,i+1=>by simp [modify_born hf l i]
theorem Born.modify {es:Array MapEntry} {clock i:Nat} {f:MapEntry->MapEntry} (h:Born es clock) (hf: ∀y,(f y).born=y.born):Born (es.modify i f) clock:=by
  have e:(es.modify i f).toList.map (·.born)=es.toList.map (·.born):=by rw [Array.toList_modify,modify_born hf]
  refine ⟨by rw [e];exact h.1,fun x hx=> ?_⟩
  have:x.born∈es.toList.map (·.born):=by rw [←e];exact List.mem_map.2 ⟨x,hx,rfl⟩
  obtain ⟨y,hy,hxy⟩:=List.mem_map.1 this
  have:=h.2 y hy
  omega
theorem Born.erase {es:Array MapEntry} {clock i:Nat} (h:Born es clock):Born (es.eraseIdxIfInBounds i) clock:=by
  have hs:(es.eraseIdxIfInBounds i).toList.Sublist es.toList:=by
    unfold Array.eraseIdxIfInBounds
    split
    · rw [Array.toList_eraseIdx];exact List.eraseIdx_sublist _ _
    · exact List.Sublist.refl _
  exact ⟨h.1.sublist (hs.map _),fun e he=>h.2 e (hs.subset he)⟩
theorem Born.empty:Born #[] 0:=⟨by simp,fun e he=>by simp at he⟩
def mo (r:Nat) (m:KV):Slot:= .par [r] (.kv m) (fun h=> ∃es clock,h r=some (.map es clock)/\(∀c,c≠r->h c=none)/\kvs es=m/\Born es clock)
def skv (s:Slot):KV:=match s with | .par _ (.kv m) _=>m | _=> []
def snum (s:Slot) (i:Nat):Nat:=match s with | .par ns _ _=>ns.getD i 0 | _=>0
def sents (s:Slot):List Ent:=match s with | .par _ (.ents L) _=>L | _=> []
theorem mo_open {r:Nat} {m:KV} {l:List Slot} {R:HP} {w:World} (h:Own (ofList (mo r m::l)) R w): ∃es clock,(kvs es=m/\Born es clock)/\Own (ofList (.blk r (.map es clock)::l)) R w:=by
  obtain ⟨p,q,hs,rest⟩:=h
  obtain ⟨es,clock,h1,h2,h3⟩:=hs 0
  refine ⟨es,clock,h3,p,q,fun i=> ?_,rest⟩
  cases i with
  | zero=>exact ⟨h1,h2⟩
  | succ i=>exact hs (i+1)
theorem mo_shut {r:Nat} {m:KV} {es:Array MapEntry} {clock:Nat} {l:List Slot} {R:HP} {w:World} (e:kvs es=m) (hbn:Born es clock) (h:Own (ofList (.blk r (.map es clock)::l)) R w):Own (ofList (mo r m::l)) R w:=by
  obtain ⟨p,q,hs,rest⟩:=h
  refine ⟨p,q,fun i=> ?_,rest⟩
  cases i with
  | zero=>exact ⟨es,clock,(hs 0).1,(hs 0).2,e,hbn⟩
  | succ i=>exact hs (i+1)
noncomputable def mget (m:KV) (k:Value):Option Value:=(m.find? fun e=>decide (e.1=k)).map (·.2)
noncomputable def mset (m:KV) (k v:Value):KV:=if (mget m k).isSome then m.map (fun e=>if e.1=k then (k,v) else e) else m++ [(k,v)]
noncomputable def mdel (m:KV) (k:Value):KV:=m.eraseP fun e=>decide (e.1=k)
def MOK (m:KV):Prop:=(m.map (·.1)).Nodup
theorem mget_nil (k:Value):mget [] k=none:=rfl
theorem mget_cons (e:Value×Value) (m:KV) (k:Value):mget (e::m) k=if e.1=k then some e.2 else mget m k:=by
  unfold mget
  rw [List.find?_cons]
  by_cases h:e.1=k<;>simp [h]
theorem mget_none {m:KV} {k:Value}:mget m k=none↔ ∀e∈m,e.1≠k:=by
  unfold mget
  rw [Option.map_eq_none_iff,List.find?_eq_none]
  simp
theorem mget_append (m n:KV) (k:Value):mget (m++n) k=(mget m k).or (mget n k):=by
  induction m with
  | nil=>rfl
  | cons e m ih=>rw [List.cons_append,mget_cons,mget_cons,ih];split<;>rfl
theorem mget_map_set (m:KV) (k v:Value) (k' :Value):mget (m.map fun e=>if e.1=k then (k,v) else e) k' =if k' =k then (mget m k).map (fun _=>v) else mget m k' :=by
  induction m with
  | nil=>simp [mget_nil]
  | cons e m ih =>
    rw [List.map_cons,mget_cons,mget_cons,mget_cons,ih]
    by_cases h:e.1=k
    · rw [if_pos h]
      by_cases h' :k' =k
      · subst h';simp [h]
      · rw [if_neg (fun x=>h' x.symm),if_neg h',if_neg h',if_neg (fun x=>h' (x.symm.trans h))]
    · rw [if_neg h]
      by_cases h' :k' =k
      · subst h';simp [h]
      · simp [h']
theorem mget_set (m:KV) (k v k' :Value):mget (mset m k v) k' =if k' =k then some v else mget m k' :=by
  unfold mset
  split
  · rename_i h
    rw [mget_map_set]
    split
    · obtain ⟨x,hx⟩:=Option.isSome_iff_exists.1 h
      rw [hx];rfl
    · rfl
  · rename_i h
    have hn:mget m k=none:=by simpa using h
    rw [mget_append,mget_cons,mget_nil]
    split
    · rename_i e;subst e;rw [hn];simp
    · rename_i e;rw [if_neg (fun x=>e x.symm)];simp
theorem mget_del {m : KV} (hm : MOK m) (k k' : Value) : mget (mdel m k) k' = if k' = k then none else mget m k' := by
  induction m with
  | nil=>simp [mdel,mget_nil]
  | cons e m ih =>
    unfold MOK at hm
    rw [List.map_cons,List.nodup_cons] at hm
    unfold mdel
    rw [List.eraseP_cons]
    by_cases h:e.1=k
    · simp only [h,decide_true,cond_true]
      rw [mget_cons]
      by_cases h' :k' =k
      · subst h'
        rw [if_pos rfl]
        refine mget_none.2 fun x hx he=>hm.1 ?_
        exact List.mem_map.2 ⟨x,hx,by rw [he,h]⟩
      · rw [if_neg h',if_neg (fun x=>h' (x.symm.trans h))]
    · simp only [h,decide_false,cond_false]
      rw [mget_cons,mget_cons]
      have:=ih hm.2
      unfold mdel at this
      rw [this]
      by_cases h' :e.1=k'
      · simp only [h',if_true];rw [if_neg (fun x=>h (h'.trans x))]
      · simp [h']
theorem keys_map_set (m:KV) (k v:Value):(m.map fun e=>if e.1=k then (k,v) else e).map (·.1)=m.map (·.1):=by
  rw [List.map_map]
  apply List.map_congr_left
  intro e he
  by_cases h:e.1=k<;>simp [h]
theorem MOK.set {m:KV} (h:MOK m) (k v:Value):MOK (mset m k v):=by
  unfold mset
  split
  · unfold MOK;rw [keys_map_set];exact h
  · rename_i hn
    have hn:mget m k=none:=by simpa using hn
    unfold MOK
    rw [List.map_append,List.map_cons,List.map_nil,List.nodup_append]
    refine ⟨h,by simp,fun a ha b hb=> ?_⟩
    simp at hb;subst hb
    obtain ⟨e,he,rfl⟩:=List.mem_map.1 ha
    exact mget_none.1 hn e he
theorem MOK.del {m:KV} (h:MOK m) (k:Value):MOK (mdel m k):=by
  unfold MOK mdel
  exact h.sublist (List.eraseP_sublist.map _)
theorem MOK.nil:MOK []:=List.nodup_nil
structure KL (P:Program) (kt:TypeId) (Ok:Value->Prop):Prop where
  check: ∀b k w,Ok k->(Instr.checkKey b 10000 kt k).run P w= .ok () w
  find: ∀k (es:List MapEntry) w,Ok k->(∀e∈es,Ok e.key)-> ∃o,(Instr.findKey kt k es).run P w= .ok o w/\
    (match o with | none=>mget (es.map fun e=>(e.key,e.val)) k=none | some (i,v)=> ∃e,es[i]? =some e/\e.key=k/\e.val=v/\ ∀j e',j<i->es[j]? =some e' ->e'.key≠k)
  same: ∀k,Ok k->Instr.sameBits 10000 k k=true
theorem mget_found {es:List MapEntry} {k:Value} {i:Nat} {e:MapEntry} (h:es[i]? =some e) (hk:e.key=k) (hl: ∀j e',j<i->es[j]? =some e' ->e'.key≠k):mget (es.map fun e=>(e.key,e.val)) k=some e.val:=by
  induction es generalizing i with
  | nil=>simp at h
  | cons x es ih =>
    rw [List.map_cons,mget_cons]
    cases i with
    | zero=>simp at h;subst h;simp [hk]
    | succ i =>
      have hx:=hl 0 x (by omega) (by simp)
      rw [if_neg hx]
      exact ih (by simpa using h) fun j e' hj he=>hl (j+1) e' (by omega) (by simpa using he)
structure TM (P:Program) (t kt vt:TypeId) (Ok:Value->Prop) (z:Value):Prop where
  und:P.underlying t=some (.map kt vt)
  key:KL P kt Ok
  zero: ∀w,(zeroValue vt).run P w= .ok z w
def KeysOk (Ok:Value->Prop) (m:KV):Prop:= ∀e∈m,Ok e.1
theorem kvs_keys {Ok:Value->Prop} {es:Array MapEntry} {m:KV} (e:kvs es=m) (h:KeysOk Ok m): ∀x∈es.toList,Ok x.key:=fun x hx=>h (x.key,x.val) (by rw [←e];exact List.mem_map.2 ⟨x,hx,rfl⟩)
theorem run_getMap {P:Program} {w:World} {r:Nat} {es:Array MapEntry} {clock:Nat} (h:w.heap[r]? =some (.map es clock)):(getObj r).run P w= .ok (.map es clock) w:=by
  simp [getObj,Sem.run,h]
theorem xlookup {P:Program} {t kt vt:TypeId} {Ok:Value->Prop} {z:Value} (T:TM P t kt vt Ok z) {r:Nat} {m:KV} (hm:KeysOk Ok m) {k:Value} (hk:Ok k):
    OpT P (do pure (.value (←Instr.lookup t (.map (some r)) k true))) [mo r m] Unit (fun _=> .tuple #[(mget m k).getD z, .bool (mget m k).isSome]) (fun _=> [mo r m]) (fun _=>True):=by
  intro R w ho
  obtain ⟨es,clock,⟨e,hbn⟩,ho'⟩:=mo_open ho
  have hb:=ho'.block (i:=0) rfl
  obtain ⟨o,hf,hspec⟩:=T.key.find k es.toList w hk (kvs_keys e hm)
  refine ⟨(),w,trivial, .inl ?_,ho,Ext.refl w⟩
  have hg:mget m k=o.map (·.2):=by
    rw [←e]
    cases o with
    | none=>exact hspec
    | some iv =>
      obtain ⟨x,h1,h2,h3,h4⟩:=hspec
      exact (mget_found h1 h2 h4).trans (by rw [h3];rfl)
  rw [hg]
  simp only [Instr.lookup,Sem.run_bind,run_underlying T.und,Result.andThen_ok,run_getMap hb,Sem.run_pure,T.key.check _ _ _ hk,hf]
  cases o with
  | none=>simp [T.zero w]
  | some iv=>simp
theorem own_setMap {r:Nat} {es:Array MapEntry} {clock:Nat} {o:Obj} {l:List Slot} {R:HP} {w:World} (ho:Own (ofList (.blk r (.map es clock)::l)) R w):
    Own (ofList (.blk r o::l)) R { w with heap:=w.heap.setIfInBounds r o }:=by
  have hb:=ho.block (i:=0) rfl
  have hlt:r<w.heap.size:=by
    rcases Nat.lt_or_ge r w.heap.size with h | h
    · exact h
    · simp [Array.getElem?_eq_none h] at hb
  have:=ho.set (i:=0) (w' := { w with heap:=w.heap.setIfInBounds r o }) (o' :=o) rfl (by simp [hlt]) (fun c hc=>by simp [Ne.symm hc])
  refine (congrArg (fun H=>Own H R _) ?_).mp this
  funext i
  cases i<;>rfl
theorem run_setMap {P:Program} {w:World} {r:Nat} {es:Array MapEntry} {clock:Nat} {o:Obj} (h:w.heap[r]? =some (.map es clock)):(setObj r o).run P w= .ok () { w with heap:=w.heap.setIfInBounds r o }:=by
  simp [setObj,Sem.run,h]
theorem ext_setMap (w:World) (r:Nat) (o:Obj):Ext w { w with heap:=w.heap.setIfInBounds r o }:=⟨rfl,rfl,rfl,by simp,by first | exact Nat.le_refl _ | exact Nat.le_succ _ | simp⟩
theorem kvs_modify {es : Array MapEntry} {i : Nat} {x : MapEntry} {k v : Value} {f : MapEntry -> MapEntry} (h : es.toList[i]? = some x) (hk : x.key = k) (hl : ∀ j e', j < i -> es.toList[j]? = some e' -> e'.key ≠ k) (hn : MOK (kvs es))
    (hf: ∀y,(f y).key=k/\(f y).val=v):kvs (es.modify i f)=mset (kvs es) k v:=by
  have hg:mget (kvs es) k=some x.val:=mget_found h hk hl
  unfold mset
  rw [if_pos (by rw [hg];rfl)]
  unfold kvs
  apply List.ext_getElem?
  intro j
  rw [List.getElem?_map,List.getElem?_map,List.getElem?_map]
  have hm:(es.modify i f).toList[j]? =if i=j then es.toList[j]?.map f else es.toList[j]? :=by
    rw [Array.toList_modify,List.getElem?_modify]
    by_cases hij:i=j<;>simp [hij]
  rw [hm]
  by_cases hij:i=j
  · subst hij
    rw [if_pos rfl,h]
    simp [hk,hf]
  · rw [if_neg hij]
    cases hj:es.toList[j]? with
    | none=>rfl
    | some y =>
      have hy:y.key≠k:=by
        intro hyk
        rcases Nat.lt_or_gt_of_ne hij with hlt | hlt
        ·
          unfold MOK at hn
          have h1:((kvs es).map (·.1))[i]? =some k:=by simp [kvs,h,hk]
          have h2:((kvs es).map (·.1))[j]? =some k:=by simp [kvs,hj,hyk]
          obtain ⟨a1,b1⟩:=List.getElem?_eq_some_iff.1 h1
          obtain ⟨a2,b2⟩:=List.getElem?_eq_some_iff.1 h2
          exact hij ((List.getElem_inj hn).1 (b1.trans b2.symm))
        · exact hl j y hlt hj hyk
      simp [hy]
theorem kvs_push {es:Array MapEntry} {k v:Value} {b:Nat} (h:mget (kvs es) k=none):kvs (es.push { key:=k,val:=v,born:=b })=mset (kvs es) k v:=by
  unfold mset
  rw [if_neg (by rw [h];simp)]
  simp [kvs]
theorem xupdate {P:Program} {t kt vt:TypeId} {Ok:Value->Prop} {z:Value} (T:TM P t kt vt Ok z) {r:Nat} {m:KV} (hm:KeysOk Ok m) (hn:MOK m) {k:Value} (hk:Ok k) (v:Value):
    OpT P (do Instr.mapUpdate t (.map (some r)) k v;pure .skip) [mo r m] Unit (fun _=>undef) (fun _=> [mo r (mset m k v)]) (fun _=>True):=by
  intro R w ho
  obtain ⟨es,clock,⟨e,hbn⟩,ho'⟩:=mo_open ho
  have hb:=ho'.block (i:=0) rfl
  obtain ⟨o,hf,hspec⟩:=T.key.find k es.toList w hk (kvs_keys e hm)
  cases o with
  | none =>
    have hg:mget (kvs es) k=none:=hspec
    refine ⟨(),_,trivial, .inr ⟨?_,rfl⟩,mo_shut (by rw [kvs_push hg,e]) (hbn.push _ _) (own_setMap (o:= .map (es.push { key:=k,val:=v,born:=clock }) (clock+1)) ho'),ext_setMap _ _ _⟩
    simp only [Instr.mapUpdate,Sem.run_bind,run_underlying T.und,Result.andThen_ok,run_getMap hb,T.key.check _ _ _ hk,hf,run_setMap hb,Sem.run_pure]
  | some iv =>
    obtain ⟨i,u⟩:=iv
    obtain ⟨x,h1,h2,h3,h4⟩:=hspec
    have hxi:es[i]? =some x:=by simpa using h1
    refine ⟨(),_,trivial, .inr ⟨?_,rfl⟩,mo_shut (by rw [kvs_modify (v:=v) h1 h2 h4 (by rw [e];exact hn) (f:=fun y=> { y with key:=k,val:=v }) (fun y=>⟨rfl,rfl⟩),e]) (hbn.modify (f:=fun y=> { y with key:=k,val:=v }) fun _=>rfl) (own_setMap (o:= .map (es.modify i fun y=> { y with key:=k,val:=v }) clock) ho'),ext_setMap _ _ _⟩
    have hs:(Instr.keyThatStays (((es[i]?).map (·.key)).getD k) k).run P w= .ok k w:=by
      rw [hxi]
      simp [h2,Instr.keyThatStays,T.key.same k hk]
    simp only [Instr.mapUpdate,Sem.run_bind,run_underlying T.und,Result.andThen_ok,run_getMap hb,T.key.check _ _ _ hk,hf,hs,run_setMap hb,Sem.run_pure]
end Go.Sx
namespace Go.Sx
open Go.RowKit
def pur (φ:Prop):Slot:= .par [] .none (fun h=>h=Hl.emp/\φ)
theorem sep_pur {φ:Prop} {a:List Slot} {h:Hl}:SepL (a++ [pur φ]) h↔SepL a h/\φ:=by
  constructor
  · intro k
    obtain ⟨p,q,ha,⟨p2,q2,⟨rfl,hφ⟩,rfl,_,rfl⟩,_,rfl⟩:=(sep_append _ _).1 k
    exact ⟨by rw [emp_un,un_emp];exact ha,hφ⟩
  · intro ⟨ha,hφ⟩
    exact (sep_append _ _).2 ⟨h,Hl.emp,ha,⟨Hl.emp,Hl.emp,⟨rfl,hφ⟩,rfl,disj_emp,rfl⟩,disj_emp,un_emp.symm⟩
theorem sep_free {a:List Slot} {h:Hl}:SepL (a++ [.free]) h↔SepL a h:=by
  constructor
  · intro k
    obtain ⟨p,q,ha,⟨p2,q2,hf,rfl,_,rfl⟩,_,rfl⟩:=(sep_append _ _).1 k
    have:p2=Hl.emp:=funext hf
    rw [this,emp_un,un_emp];exact ha
  · intro ha
    exact (sep_append _ _).2 ⟨h,Hl.emp,ha,⟨Hl.emp,Hl.emp,fun _=>rfl,rfl,disj_emp,rfl⟩,disj_emp,un_emp.symm⟩
structure MK where
  te:TypeId
  less:Value
  OkK:Value->Prop
  OkV:Value->Prop
structure KOK (K:MK) (m:KV):Prop where
  once:MOK m
  ok: ∀e∈m,K.OkK e.1/\K.OkV e.2
theorem KOK.keys {K:MK} {m:KV} (h:KOK K m):KeysOk K.OkK m:=fun e he=>(h.ok e he).1
theorem KOK.nil {K:MK}:KOK K []:=⟨MOK.nil,fun e h=>by cases h⟩
theorem mem_set {m:KV} {k v:Value} {e:Value×Value} (h:e∈mset m k v):e=(k,v)∨e∈m:=by
  unfold mset at h
  split at h
  · obtain ⟨x,hx,rfl⟩:=List.mem_map.1 h
    split
    · exact .inl rfl
    · exact .inr hx
  · rcases List.mem_append.1 h with h | h
    · exact .inr h
    · simp at h;exact .inl h
theorem KOK.set {K:MK} {m:KV} (h:KOK K m) {k v:Value} (hk:K.OkK k) (hv:K.OkV v):KOK K (mset m k v):=
  ⟨h.once.set k v,fun e he=>(mem_set he).elim (fun x=>by subst x;exact ⟨hk,hv⟩) (h.ok e)⟩
theorem KOK.del {K:MK} {m:KV} (h:KOK K m) (k:Value):KOK K (mdel m k):=⟨h.once.del k,fun e he=>h.ok e (List.mem_of_mem_eraseP he)⟩
theorem mget_mem {m:KV} {k v:Value} (h:mget m k=some v):(k,v)∈m:=by
  unfold mget at h
  obtain ⟨e,he,rfl⟩:=Option.map_eq_some_iff.1 h
  have h1:=List.find?_some he
  have h2:=List.mem_of_find?_eq_some he
  simp at h1
  subst h1;exact h2
theorem KOK.val {K:MK} {m:KV} (h:KOK K m) {k v:Value} (hg:mget m k=some v):K.OkV v:=(h.ok _ (mget_mem hg)).2
def mF (K:MK) (b bj:Nat) (m:KV):Nat->List Slot:=fun r=>
  [.blk b (.cells #[.map (some r), .pointer (some ⟨bj,0,none⟩),K.less] K.te (0,0)),mo r m]++ [pur (KOK K m)]
def mS (K:MK) (b bj:Nat) (m:KV):Slot:=bun [b,bj] (.kv m) (mF K b bj m)
theorem mS_shut {K:MK} {b bj r:Nat} {m:KV} (h:KOK K m) (l:List Slot):Imp (.blk b (.cells #[.map (some r), .pointer (some ⟨bj,0,none⟩),K.less] K.te (0,0))::mo r m::l) (mS K b bj m::l):=by
  refine Imp.trans (.same fun p hp=> ?_) (bun_shut r l)
  have h2:SepL ([.blk b (.cells #[.map (some r), .pointer (some ⟨bj,0,none⟩),K.less] K.te (0,0)),mo r m]++l) p:=hp
  obtain ⟨p1,p2,ha,hb,d,rfl⟩:=(sep_append _ _).1 h2
  exact (sep_append _ _).2 ⟨p1,p2,sep_pur.2 ⟨ha,h⟩,hb,d,rfl⟩
theorem mS_open {K:MK} {b bj:Nat} {m:KV} {l:List Slot} {R:HP} {w:World} (h:Own (ofList (mS K b bj m::l)) R w):
    ∃r,KOK K m/\Own (ofList (.blk b (.cells #[.map (some r), .pointer (some ⟨bj,0,none⟩),K.less] K.te (0,0))::mo r m::l)) R w:=by
  obtain ⟨r,hr⟩:=bun_open h
  obtain ⟨p,q,hp,hq,hw,hqw,d⟩:=own_sep.1 hr
  obtain ⟨p1,p2,ha,hb,d2,rfl⟩:=(sep_append _ _).1 hp
  obtain ⟨ha',hk⟩:=sep_pur.1 ha
  exact ⟨r,hk,own_sep.2 ⟨_,q,(sep_append [_,_] l).2 ⟨p1,p2,ha',hb,d2,rfl⟩,hq,hw,hqw,d⟩⟩
theorem mS_call {P:Program} {f:FuncId} {args:Array Value} {K:MK} {b bj:Nat} {m:KV} {l:List Slot} {X:Type} {val:X->Value} {us:X->List Slot} {Φ:X->Prop} {m' :X->KV} (he:EnterOK P f)
    (h: ∀r,KOK K m->CallT P f args (.blk b (.cells #[.map (some r), .pointer (some ⟨bj,0,none⟩),K.less] K.te (0,0))::mo r m::l) X val (fun x=> .blk b (.cells #[.map (some r), .pointer (some ⟨bj,0,none⟩),K.less] K.te (0,0))::mo r (m' x)::us x) Φ)
    (hk: ∀x,Φ x->KOK K m->KOK K (m' x)):CallT P f args (mS K b bj m::l) X val (fun x=>mS K b bj (m' x)::us x) Φ:=
  ⟨he,fun R w ho=>by
    obtain ⟨r,hm,ho'⟩:=mS_open ho
    exact ((h r hm).calls R w ho').mono fun _ _ ⟨x,hx,e,o,ext⟩=>⟨x,hx,e,mS_shut (hk x hx hm) _ _ _ o,ext⟩⟩
abbrev N4:=Nat×Nat×Nat×Nat
abbrev Rw:=Row
abbrev ptr (b:Nat):Value:= .pointer (some ⟨b,0,none⟩)
def Ent.fn (e:Ent) (a:N4):Value:= .func (.func e.g) #[] #[ptr a.1,ptr a.2.1,ptr a.2.2.1,ptr a.2.2.2]
def Ent.sl (e:Ent) (a:N4):List Slot:=
  [.blk a.1 (.cells #[.bool e.was.isSome] e.t1 (0,0)), .blk a.2.1 (.cells (e.was.getD e.z).cells e.t2 (0,0)), .blk a.2.2.1 (.cells #[ptr e.b] e.t3 (0,0)), .blk a.2.2.2 (.cells e.key.cells e.t4 (0,0))]
def ents (L:List Ent) (A:List N4):List Slot:=(L.zip A).flatMap fun x=>x.1.sl x.2
def fns (L:List Ent) (A:List N4):List Value:=(L.zip A).map fun x=>x.1.fn x.2
structure JK where
  tj:TypeId
  ft:TypeId
def jF (K:JK) (bj:Nat) (L:List Ent):Row×List N4->List Slot:=fun e=>
  (.blk bj (.cells #[sv e.1] K.tj (0,0))::ss K.ft e.1::ents L e.2)++ [pur (vals e.1=fns L e.2/\e.2.length=L.length)]
def jS (K:JK) (bj:Nat) (L:List Ent):Slot:=bun [bj] (.ents L) (jF K bj L)
theorem jS_shut {K:JK} {bj:Nat} {L:List Ent} {row:Row} {A:List N4} (hv:vals row=fns L A) (hl:A.length=L.length) (l:List Slot):
    Imp (.blk bj (.cells #[sv row] K.tj (0,0))::ss K.ft row::(ents L A++l)) (jS K bj L::l):=by
  refine Imp.trans (.same fun p hp=> ?_) (bun_shut (row,A) l)
  have h2:SepL ((.blk bj (.cells #[sv row] K.tj (0,0))::ss K.ft row::ents L A)++l) p:=hp
  obtain ⟨p1,p2,ha,hb,d,rfl⟩:=(sep_append _ _).1 h2
  exact (sep_append _ _).2 ⟨p1,p2,sep_pur.2 ⟨ha,hv,hl⟩,hb,d,rfl⟩
theorem jS_open {K:JK} {bj:Nat} {L:List Ent} {l:List Slot} {R:HP} {w:World} (h:Own (ofList (jS K bj L::l)) R w):
    ∃row A,vals row=fns L A/\A.length=L.length/\Own (ofList (.blk bj (.cells #[sv row] K.tj (0,0))::ss K.ft row::(ents L A++l))) R w:=by
  obtain ⟨⟨row,A⟩,hr⟩:=bun_open h
  obtain ⟨p,q,hp,hq,hw,hqw,d⟩:=own_sep.1 hr
  obtain ⟨p1,p2,ha,hb,d2,rfl⟩:=(sep_append _ _).1 hp
  obtain ⟨ha',hv,hl⟩:=sep_pur.1 ha
  exact ⟨row,A,hv,hl,own_sep.2 ⟨_,q,(sep_append (_::_::ents L A) l).2 ⟨p1,p2,ha',hb,d2,rfl⟩,hq,hw,hqw,d⟩⟩
theorem fns_len {L:List Ent} {A:List N4} (h:A.length=L.length):(fns L A).length=L.length:=by simp [fns,h]
theorem fns_snoc {L:List Ent} {A:List N4} (h:A.length=L.length) (e:Ent) (a:N4):fns (L++ [e]) (A++ [a])=fns L A++ [e.fn a]:=by
  unfold fns;rw [List.zip_append h.symm,List.map_append];rfl
theorem ents_snoc {L:List Ent} {A:List N4} (h:A.length=L.length) (e:Ent) (a:N4):ents (L++ [e]) (A++ [a])=ents L A++e.sl a:=by
  unfold ents;rw [List.zip_append h.symm,List.flatMap_append];simp
theorem jS_empty {K:JK} {bj:Nat}:Imp [.blk bj (.cells #[.slice none 0 0] K.tj (0,0))] [jS K bj []]:=by
  refine Imp.trans (.same fun p hp=> ?_) (jS_shut (row:= .nil) (A:= []) rfl rfl [])
  exact (sep_free (a:= [.blk bj (.cells #[.slice none 0 0] K.tj (0,0))])).2 hp
theorem jS_note {P:Program} {f:FuncId} {args:Array Value} {K:JK} {bj:Nat} {L:List Ent} {S1 S2:Slot} {V:Type} {vv:V->Value} {e:Ent} {mk:Option Value->Ent} (he:EnterOK P f) (hs:e.was.isSome=e.was.isSome)
    (h: ∀row,(vals row).length=L.length->CallT P f args [S1,S2, .blk bj (.cells #[sv row] K.tj (0,0)),ss K.ft row] (Row×N4×V×Bool) (fun _=>undef)
      (fun x=> [S1,S2, .blk bj (.cells #[sv x.1] K.tj (0,0)),ss K.ft x.1, .blk x.2.1.1 (.cells #[.bool x.2.2.2] e.t1 (0,0)), .blk x.2.1.2.1 (.cells (vv x.2.2.1).cells e.t2 (0,0)), .blk x.2.1.2.2.1 (.cells #[ptr e.b] e.t3 (0,0)), .blk x.2.1.2.2.2 (.cells e.key.cells e.t4 (0,0))])
      (fun x=>vals x.1=vals row++ [e.fn x.2.1]/\x.2.2.2=e.was.isSome/\vv x.2.2.1=e.was.getD e.z)):
    CallT P f args [S1,S2,jS K bj L] Unit (fun _=>undef) (fun _=> [S1,S2,jS K bj (L++ [e])]) (fun _=>True):=
  ⟨he,fun R w ho=>by
    have ho1:Own (ofList (jS K bj L:: [S1,S2])) R w:=Imp.swap [S1,S2] [jS K bj L] R w ho
    obtain ⟨row,A,hv,hl,ho2⟩:=jS_open (l:= [S1,S2]) ho1
    have ho3:Own (ofList ([S1,S2]++([.blk bj (.cells #[sv row] K.tj (0,0)),ss K.ft row]++ents L A))) R w:=
      Imp.swap ([.blk bj (.cells #[sv row] K.tj (0,0)),ss K.ft row]++ents L A) [S1,S2] R w ho2
    have c:=(h row (by rw [hv,fns_len hl])).frame (ents L A)
    refine (c.calls R w ho3).mono fun e' w' hh=> ?_
    obtain ⟨x,⟨h1,h2,h3⟩,e1,o,ext⟩:=hh
    refine ⟨(),trivial,e1,?_,ext⟩
    obtain ⟨y,a,v,is⟩:=x
    simp only at h1 h2 h3 o
    rw [h2,h3] at o
    have o1:Own (ofList ([S1,S2]++([.blk bj (.cells #[sv y] K.tj (0,0)),ss K.ft y]++(e.sl a++ents L A)))) R w' :=o
    have o2:=Imp.swap [S1,S2] _ R w' o1
    have o3:Own (ofList (.blk bj (.cells #[sv y] K.tj (0,0))::ss K.ft y::(ents (L++ [e]) (A++ [a])++ [S1,S2]))) R w' :=by
      refine (Imp.same fun p hp=> ?_) R w' o2
      rw [ents_snoc hl]
      have hp' :SepL ([.blk bj (.cells #[sv y] K.tj (0,0)),ss K.ft y]++((e.sl a++ents L A)++ [S1,S2])) p:=by rw [←List.append_assoc];exact hp
      obtain ⟨p1,p2,ha,hb,d,rfl⟩:=(sep_append _ _).1 hp'
      obtain ⟨p3,p4,hc,hd,d2,rfl⟩:=(sep_append _ _).1 hb
      exact (sep_append [.blk bj (.cells #[sv y] K.tj (0,0)),ss K.ft y] ((ents L A++e.sl a)++ [S1,S2])).2 ⟨p1,_,ha,(sep_append _ _).2 ⟨p3,p4,sep_swap hc,hd,d2,rfl⟩,d,rfl⟩
    have o4:=jS_shut (by rw [fns_snoc hl,h1,hv]) (by simp [hl]) [S1,S2] R w' o3
    exact Imp.swap [jS K bj (L++ [e])] [S1,S2] R w' o4⟩
end Go.Sx
namespace Go.Sx
open Go.RowKit
theorem KL.of_now {P : Program} {kt : TypeId} {d : TypeDesc} {Ok : Value -> Prop} (hu : P.underlying kt = some d) (hc : ∀ b k w, Ok k -> (Instr.checkKey b 10000 kt k).run P w = .ok () w)
    (hn: ∀k k',Ok k->Ok k' ->Instr.sameNow d k k' =some (decide (k=k'))) (hs: ∀k,Ok k->Instr.sameBits 10000 k k=true):KL P kt Ok:=by
  refine ⟨hc,fun k es w hk hes=> ?_,hs⟩
  have key: ∀ (es:List MapEntry) (n:Nat),(∀e∈es,Ok e.key)-> ∃o,Instr.findNow d k es n=some o/\
      (match o with | none=>mget (es.map fun e=>(e.key,e.val)) k=none | some (i,v)=>n<=i/\ ∃e,es[i - n]? =some e/\e.key=k/\e.val=v/\ ∀j e',j<i - n->es[j]? =some e' ->e'.key≠k):=by
    intro es
    induction es with
    | nil=>intro n _;exact ⟨none,rfl,rfl⟩
    | cons e es ih =>
      intro n h
      have he:=hn k e.key hk (h e (List.mem_cons_self ..))
      by_cases hke:k=e.key
      · refine ⟨some (n,e.val),?_,Nat.le_refl _,e,by simp,hke.symm,rfl,fun j e' hj=>by omega⟩
        unfold Instr.findNow;rw [he];simp [hke]
      · obtain ⟨o,ho,hspec⟩:=ih (n+1) fun x hx=>h x (List.mem_cons_of_mem _ hx)
        refine ⟨o,?_,?_⟩
        · unfold Instr.findNow;rw [he];simp [hke,ho]
        · cases o with
          | none =>
            show mget ((e::es).map fun e=>(e.key,e.val)) k=none
            rw [List.map_cons,mget_cons,if_neg (fun x=>hke x.symm)];exact hspec
          | some iv =>
            obtain ⟨h1,x,h2,h3,h4,h5⟩:=hspec
            refine ⟨by omega,x,?_,h3,h4,fun j e' hj hje=> ?_⟩
            · rw [show iv.1 - n=(iv.1 - (n+1))+1 from by omega,List.getElem?_cons_succ];exact h2
            · cases j with
              | zero=>simp at hje;subst hje;exact fun x=>hke x.symm
              | succ j=>exact h5 j e' (by omega) (by simpa using hje)
  obtain ⟨o,ho,hspec⟩:=key es 0 hes
  refine ⟨o,?_,?_⟩
  · simp only [Instr.findKey,Sem.run_bind,run_underlying hu,Result.andThen_ok,ho,Sem.run_pure]
  · cases o with
    | none=>exact hspec
    | some iv=>exact hspec.2
theorem KL.of_asking {P : Program} {kt : TypeId} {d : TypeDesc} {Ok : Value -> Prop} (hu : P.underlying kt = some d) (hc : ∀ b k w, Ok k -> (Instr.checkKey b 10000 kt k).run P w = .ok () w)
    (hn: ∀k k',Ok k->Ok k' ->Instr.sameNow d k k' =none) (he: ∀k k' w,Ok k->Ok k' ->(Op.equal kt k k').run P w= .ok (decide (k=k')) w) (hs: ∀k,Ok k->Instr.sameBits 10000 k k=true):KL P kt Ok:=by
  refine ⟨hc,fun k es w hk hes=> ?_,hs⟩
  have key: ∀ (es:List MapEntry) (n:Nat),(∀e∈es,Ok e.key)-> ∃o,(Instr.findAsking kt k es n).run P w= .ok o w/\
      (match o with | none=>mget (es.map fun e=>(e.key,e.val)) k=none | some (i,v)=>n<=i/\ ∃e,es[i - n]? =some e/\e.key=k/\e.val=v/\ ∀j e',j<i - n->es[j]? =some e' ->e'.key≠k):=by
    intro es
    induction es with
    | nil=>intro n _;exact ⟨none,rfl,rfl⟩
    | cons e es ih =>
      intro n h
      have hq:=he k e.key w hk (h e (List.mem_cons_self ..))
      by_cases hke:k=e.key
      · refine ⟨some (n,e.val),?_,Nat.le_refl _,e,by simp,hke.symm,rfl,fun j e' hj=>by omega⟩
        rw [decide_eq_true hke] at hq
        unfold Instr.findAsking;simp [Sem.run_bind,hq]
      · obtain ⟨o,ho,hspec⟩:=ih (n+1) fun x hx=>h x (List.mem_cons_of_mem _ hx)
        refine ⟨o,?_,?_⟩
        · rw [decide_eq_false hke] at hq
          unfold Instr.findAsking;simp [Sem.run_bind,hq,ho]
        · cases o with
          | none =>
            show mget ((e::es).map fun e=>(e.key,e.val)) k=none
            rw [List.map_cons,mget_cons,if_neg (fun x=>hke x.symm)];exact hspec
          | some iv =>
            obtain ⟨h1,x,h2,h3,h4,h5⟩:=hspec
            refine ⟨by omega,x,?_,h3,h4,fun j e' hj hje=> ?_⟩
            · rw [show iv.1 - n=(iv.1 - (n+1))+1 from by omega,List.getElem?_cons_succ];exact h2
            · cases j with
              | zero=>simp at hje;subst hje;exact fun x=>hke x.symm
              | succ j=>exact h5 j e' (by omega) (by simpa using hje)
  cases es with
  | nil =>
    refine ⟨none,?_,rfl⟩
    simp only [Instr.findKey,Sem.run_bind,run_underlying hu,Result.andThen_ok,Instr.findNow,Sem.run_pure]
  | cons e es =>
    obtain ⟨o,ho,hspec⟩:=key (e::es) 0 hes
    refine ⟨o,?_,?_⟩
    · have:Instr.findNow d k (e::es) 0=none:=by unfold Instr.findNow;rw [hn k e.key hk (hes e (List.mem_cons_self ..))]
      simp only [Instr.findKey,Sem.run_bind,run_underlying hu,Result.andThen_ok,this]
      exact ho
    · cases o with
      | none=>exact hspec
      | some iv=>exact hspec.2
theorem kl_int {P:Program} {kt:TypeId} {k:IntKind} (hu:P.underlying kt=some (.int k)):KL P kt (fun v=> ∃n:Int,v= .int k n):=by
  refine KL.of_now hu ?_ ?_ ?_
  · rintro b _ w ⟨n,rfl⟩
    show (Instr.checkKey b (9999+1) kt (.int k n)).run P w= .ok () w
    rw [Instr.checkKey]
    simp only [Sem.run_bind,run_underlying hu,Result.andThen_ok,Sem.run_pure]
  · rintro _ _ ⟨a,rfl⟩ ⟨b,rfl⟩
    simp only [Instr.sameNow,if_true,Option.some.injEq]
    by_cases h:a=b<;>simp [h]
  · rintro _ ⟨n,rfl⟩
    show Instr.sameBits (9999+1) (.int k n) (.int k n)=true
    rw [Instr.sameBits];simp
structure KindL (P:Program) (K:MK) (t kt vt:TypeId) (z:Value) {V:Type} (vv:V->Value) (Ok:V->Prop):Prop where
  tm:TM P t kt vt K.OkK z
  val: ∀x,K.OkV x↔ ∃v,Ok v/\x=vv v
  zero: ∃v,Ok v/\z=vv v
def F_look {V:Type} (vv:V->Value) (Ok:V->Prop) (z:Value):List Value->List Slot->Ctr:=fun vs hs=>
  ⟨V×Bool,fun x=> .tuple #[vv x.1, .bool x.2],fun _=>hs,fun x=>Ok x.1/\x.2=(mget (skv (sarg hs 0)) (varg vs 1)).isSome/\vv x.1=(mget (skv (sarg hs 0)) (varg vs 1)).getD z⟩
theorem wlook {P:Program} {K:MK} {t kt vt:TypeId} {z:Value} {V:Type} {vv:V->Value} {Ok:V->Prop} (L:KindL P K t kt vt z vv Ok) {m:KV} (h:KOK K m) (k:Value):
    ∃x:V×Bool,(fun x:V×Bool=>Ok x.1/\x.2=(mget m k).isSome/\vv x.1=(mget m k).getD z) x:=by
  cases hg:mget m k with
  | none =>
    obtain ⟨v,hv,hz⟩:=L.zero
    exact ⟨(v,false),hv,rfl,hz.symm⟩
  | some y =>
    obtain ⟨v,hv,hy⟩:=(L.val y).1 (h.val hg)
    exact ⟨(v,true),hv,rfl,hy.symm⟩
theorem xlook {P:Program} {K:MK} {t kt vt:TypeId} {z:Value} {V:Type} {vv:V->Value} {Ok:V->Prop} (L:KindL P K t kt vt z vv Ok) {r:Nat} {m:KV} (h:KOK K m) {k:Value} (hk:K.OkK k):
    OpT P (do pure (.value (←Instr.lookup t (.map (some r)) k true))) [mo r m] (V×Bool) (fun x=> .tuple #[vv x.1, .bool x.2]) (fun _=> [mo r m]) (fun x=>Ok x.1/\x.2=(mget m k).isSome/\vv x.1=(mget m k).getD z):=by
  intro R w ho
  obtain ⟨_,w',_,hy,ho',he⟩:=xlookup L.tm h.keys hk R w ho
  obtain ⟨x,hx⟩:=wlook L h k
  refine ⟨x,w',hx,?_,ho',he⟩
  simp only [hx.2.1,hx.2.2];exact hy
def F_upd:List Value->List Slot->Ctr:=fun vs hs=>⟨KV,fun _=>undef,fun x=> [mo (vblk (varg vs 0)) x],fun x=>x=mset (skv (sarg hs 0)) (varg vs 1) (varg vs 2)⟩
theorem xupd {P:Program} {K:MK} {t kt vt:TypeId} {z:Value} {V:Type} {vv:V->Value} {Ok:V->Prop} (L:KindL P K t kt vt z vv Ok) {r:Nat} {m:KV} (h:KOK K m) {k:Value} (hk:K.OkK k) (v:Value):
    OpT P (do Instr.mapUpdate t (.map (some r)) k v;pure .skip) [mo r m] KV (fun _=>undef) (fun x=> [mo r x]) (fun x=>x=mset m k v):=by
  intro R w ho
  obtain ⟨_,w',_,hy,ho',he⟩:=xupdate L.tm h.keys h.once hk v R w ho
  exact ⟨_,w',rfl,hy,ho',he⟩
theorem mo_new {r:Nat} {l:List Slot}:Imp (.blk r (.map #[] 0)::l) (mo r []::l):=fun _ _ h=>mo_shut rfl Born.empty h
end Go.Sx
namespace Go.Sx
open Go.RowKit
structure CallD (P:Program) (f:FuncId) (args:Array Value) (Hs:List Slot) (X:Type) (us:X->List Slot) (Φ:X->Prop):Prop where
  enter:EnterOK P f
  calls: ∀ (R:HP) (u:FrameMode) (w:World),Own (ofList Hs) R w->
    CallsD P f args u w fun e u' w' =>u' =u/\ ∃x v,Φ x/\e= .returned v/\Own (ofList (us x)) R w' /\Ext w w'
theorem CallD.use {P:Program} {f:FuncId} {args:Array Value} {H:Hp} {ins outs:List Nat} {X:Type} {us:X->List Slot} {Φ:X->Prop} {R:HP} {u:FrameMode} {w:World}
    (h:CallD P f args (ins.map H) X us Φ) (hi:ins.Nodup) (ho:outs.Nodup) (hw:Own H R w):
    CallsD P f args u w fun e u' w' =>u' =u/\ ∃x v,Φ x/\e= .returned v/\Own (updL (clears H ins) outs (us x)) R w' /\Ext w w' :=
  (h.calls _ u w (own_split hi hw)).mono fun _ _ _ ⟨hu,x,v,hx,he,ho',hext⟩=>⟨hu,x,v,hx,he,own_join ho ho',hext⟩
end Go.Sx
namespace Go.Sx
theorem new_fold {K:MK} (b r bj:Nat):Imp [.blk b (.cells #[.map (some r), .pointer (some ⟨bj,0,none⟩),K.less] K.te (0,0)), .blk r (.map #[] 0)] [mS K b bj []]:=by
  refine Imp.trans ?_ (mS_shut (r:=r) KOK.nil [])
  intro R w h
  have h1:=Imp.swap [_] [_] R w h
  exact Imp.swap [mo r []] [_] R w (mo_new R w h1)
theorem cells_sv (r:Row):(sv r).cells= #[sv r]:=by cases r<;>rfl
theorem one_sv (r:Row):(sv r).oneCell' =true:=by cases r<;>rfl
theorem heap_setCell_at (w:World) (b n:Nat) (cs:Array Value) (e:TypeId) (f:Nat×Nat) (v:Value) (h:w.heap[b]? =some (.cells cs e f)):(w.setCell ⟨b,n,none⟩ v).heap[b]? =some (.cells (cs.setIfInBounds n v) e f):=by
  simp only [World.setCell]
  rw [heap_modify_same _ h];simp
theorem xputv {P:Program} {b:Nat} {cs:Array Value} {ty te:TypeId} (hs: ∀w,(sizeOf te).run P w= .ok 1 w) (n:Nat) (v:Value) (h1:v.cells= #[v]) (h2:v.oneCell' =true) (hn:n<cs.size):
    OpT P (do Instr.storeAt te (.pointer (some ⟨b,n,none⟩)) v;pure .skip) [.blk b (.cells cs ty (0,0))] Unit (fun _=>undef) (fun _=> [.blk b (.cells (cs.setIfInBounds n v) ty (0,0))]) (fun _=>True):=by
  intro R w h
  have hb:=h.block (i:=0) rfl
  have hc:w.cell? ⟨b,n,none⟩=some cs[n]:=by
    rw [cell_of_block hb rfl];simp [hn]
  have hf:w.frozen? ⟨b,n,none⟩=false:=by
    rw [frozen_of_block hb];simp [frozenAt,frz]
  have hst:(store ⟨b,n,none⟩ v).run P w= .ok () (w.setCell ⟨b,n,none⟩ v):=by rw [run_store P w _ v _ h2,hc];simp [hf]
  have hh:=heap_setCell_at w b n cs ty (0,0) v hb
  refine ⟨(),w.setCell ⟨b,n,none⟩ v,trivial, .inr ⟨?_,rfl⟩,?_,?_⟩
  · simp [Instr.storeAt,Instr.sureAddr,storeVar,Sem.run_bind,hs,h1,storeCells,Addr.add,hst]
  · have:=h.set (i:=0) (b:=b) rfl hh (fun c hc=>heap_setCell_other w _ c v hc)
    refine (congrArg (fun H=>Own H R (w.setCell ⟨b,n,none⟩ v)) ?_).mp this
    funext i
    cases i<;>rfl
  · exact ⟨rfl,rfl,rfl,by simp,by first | exact Nat.le_refl _ | exact Nat.le_succ _ | simp⟩
def default_ent:Ent:=⟨0,0,undef,none,undef,0,0,0,0⟩
def F_newj (K:JK):List Value->List Slot->Ctr:=fun _ _=>⟨Nat,ptr,fun b=> [jS K b []],fun _=>True⟩
theorem xnewj {P:Program} {K:JK} {m:Sem Next} (h:symW P m [.nw 0] (ofList []) fun nx H _=> ∃b,nx= .value (ptr b)/\H=upd (ofList []) 0 (.blk b (.cells #[.slice none 0 0] K.tj (0,0)))):
    OpT P m [] Nat ptr (fun b=> [jS K b []]) (fun _=>True):=by
  intro R w ho
  obtain ⟨nx,w',H',acc',hrun,⟨b,rfl,rfl⟩,ho',he⟩:=symW_sound _ _ _ _ R w h ho
  refine ⟨b,w',trivial, .inl hrun,jS_empty _ _ ?_,he⟩
  refine (congrArg (fun H=>Own H R w') ?_).mp ho'
  funext i;cases i<;>rfl
theorem Imp.tail {a b:List Slot} (s:Slot) (h:Imp a b):Imp (s::a) (s::b):=by
  intro R w ho
  have h1:=own_frame.1 (Imp.swap [s] a R w ho)
  exact Imp.swap b [s] R w (own_frame.2 (h _ w h1))
theorem Imp.head {a b:List Slot} (l:List Slot) (h:Imp a b):Imp (a++l) (b++l):=fun R w ho=>own_frame.2 (h _ w (own_frame.1 ho))
theorem kl_struct2 {P : Program} {kt : TypeId} {k0 k1 : IntKind} {f0 f1 : Field} (hu : P.underlying kt = some (.struct #[f0, f1])) (hp : P.stoodInHeld kt = false) (n0 : (f0.name == "_") = false) (n1 : (f1.name == "_") = false) (o0 : f0.offset = 0) (o1 : f1.offset = 1)
    (u0:P.underlying f0.type=some (.int k0)) (u1:P.underlying f1.type=some (.int k1)) (a0: ∀w,(isAgg f0.type).run P w= .ok false w) (a1: ∀w,(isAgg f1.type).run P w= .ok false w)
    (hc: ∀b a c w,(Instr.checkKey b 10000 kt (.agg #[.int k0 a, .int k1 c])).run P w= .ok () w):KL P kt (fun v=> ∃n0 n1:Int,v= .agg #[.int k0 n0, .int k1 n1]):=by
  refine KL.of_asking hu ?_ ?_ ?_ ?_
  · rintro b _ w ⟨a,c,rfl⟩;exact hc b a c w
  · rintro _ _ ⟨a,c,rfl⟩ ⟨a',c',rfl⟩;rfl
  · rintro _ _ w ⟨a,c,rfl⟩ ⟨a',c',rfl⟩
    have hfs:P.fieldsOf kt= #[f0,f1]:=by unfold Program.fieldsOf;rw [hu]
    have hu' :P.underlying kt=some (.struct (P.fieldsOf kt)):=by rw [hfs];exact hu
    have h0 : f0.name ≠ "_" := by simpa using n0
    have h1 : f1.name ≠ "_" := by simpa using n1
    show (Op.equalIn (9999+1) kt _ _).run P w=_
    rw [run_equalIn_struct w 9999 kt _ _ hu' hp,hfs]
    have p0: ∀ (x y:Value) (w:World),(part f0.type #[x,y] f0.offset).run P w= .ok x w:=fun x y w=>run_part1 w a0 (by rw [o0];rfl)
    have p1: ∀ (x y:Value) (w:World),(part f1.type #[x,y] f1.offset).run P w= .ok y w:=fun x y w=>run_part1 w a1 (by rw [o1];rfl)
    have e0:(Op.equalIn (9998+1) f0.type (.int k0 a) (.int k0 a')).run P w= .ok (a==a') w:=run_equalIn_int w 9998 f0.type k0 k0 a a' u0
    have e1:(Op.equalIn (9998+1) f1.type (.int k1 c) (.int k1 c')).run P w= .ok (c==c') w:=run_equalIn_int w 9998 f1.type k1 k1 c c' u1
    simp only [Op.eqFields,h0,h1,ne_eq,not_false_eq_true,if_true,Sem.run_bind,p0,p1,Result.andThen_ok,e0,e1]
    by_cases ha:a=a'
    · by_cases hc:c=c'
      · simp [ha,hc,Op.eqFields,Sem.run_bind,p0,p1,h1]
        have e1' :(Op.equalIn (9998+1) f1.type (.int k1 c') (.int k1 c')).run P w= .ok true w:=by
          have:=run_equalIn_int (P:=P) w 9998 f1.type k1 k1 c' c' u1
          simpa using this
        first | done | (rw [e1'];rfl) | simp [e1']
      · have hcc:(c==c')=false:=by simpa using hc
        simp [ha,hc,Op.eqFields,Sem.run_bind,p0,p1,h1]
        have e1' :(Op.equalIn (9998+1) f1.type (.int k1 c) (.int k1 c')).run P w= .ok false w:=by rw [e1,hcc]
        first | done | (rw [e1'];rfl) | simp [e1']
    · have haa:(a==a')=false:=by simpa using ha
      simp [ha]
  · rintro _ ⟨a,c,rfl⟩
    show Instr.sameBits (9999+1) _ _=true
    simp [Instr.sameBits]
end Go.Sx
namespace Go.Sx
abbrev M256:Int:=115792089237316195423570985008687907853269984665640564039457584007913129639936
def kk (t p:Int):Value:= .agg #[.int .u8 t, .int .u8 p]
theorem kk_inj {t p t' p' :Int}:kk t p=kk t' p' ↔t=t' /\p=p' :=by
  unfold kk;constructor
  · intro h;simp at h;exact h
  · rintro ⟨rfl,rfl⟩;rfl
noncomputable def bal (m:KV) (t p:Int):Int:=num ((mget m (kk t p)).getD (vI 0))
noncomputable def sup (m:KV) (t:Int):Int:=num ((mget m (.int .u8 t)).getD (vI 0))
noncomputable def mput (m:KV) (k:Value) (n:Int):KV:=if n=0 then mdel m k else mset m k (vI n)
abbrev BS:=KV×KV×List Ent
def NumK (K:MK):Prop:= ∀x,K.OkV x↔ ∃v,R4 v/\x=vI v
theorem KOK.R4v {K:MK} (hK:NumK K) {m:KV} (h:KOK K m) (k:Value):R4 (num ((mget m k).getD (vI 0))):=by
  cases hg:mget m k with
  | none=>rw [Option.getD_none,num_vI R4_zero];exact R4_zero
  | some x =>
    obtain ⟨v,hv,rfl⟩:=(hK x).1 (h.val hg)
    rw [Option.getD_some,num_vI hv];exact hv
theorem KOK.put {K:MK} (hK:NumK K) {m:KV} (h:KOK K m) {k:Value} (hk:K.OkK k) {n:Int} (hn:R4 n):KOK K (mput m k n):=by
  unfold mput;split
  · exact h.del k
  · exact h.set hk ((hK _).2 ⟨n,hn,rfl⟩)
end Go.Sx
namespace Go.Sx
open Go.RowKit
abbrev ST:=Int×Int×Int×Int
def stV (s:ST):Value:= .agg #[.int .u64 (lim s.1 0), .int .u64 (lim s.1 1), .int .u64 (lim s.1 2), .int .u64 (lim s.1 3),
  .int .u64 (lim s.2.1 0), .int .u64 (lim s.2.1 1), .int .u64 (lim s.2.1 2), .int .u64 (lim s.2.1 3),
  .int .u64 (lim s.2.2.1 0), .int .u64 (lim s.2.2.1 1), .int .u64 (lim s.2.2.1 2), .int .u64 (lim s.2.2.1 3),
  .int .u64 (lim s.2.2.2 0), .int .u64 (lim s.2.2.2 1), .int .u64 (lim s.2.2.2 2), .int .u64 (lim s.2.2.2 3)]
def numAt (v:Value) (i:Nat):Int:=num (.agg #[cell v i,cell v (i+1),cell v (i+2),cell v (i+3)])
def unST (v:Value):ST:=(numAt v 0,numAt v 4,numAt v 8,numAt v 12)
structure okS (s:ST):Prop where
  a:R4 s.1
  b:R4 s.2.1
  c:R4 s.2.2.1
  d:R4 s.2.2.2
def s0:ST:=(0,0,0,0)
theorem okS0:okS s0:=⟨R4_zero,R4_zero,R4_zero,R4_zero⟩
theorem un_stV {s:ST} (h:okS s):unST (stV s)=s:=by
  have e1:numAt (stV s) 0=num (vI s.1):=rfl
  have e2:numAt (stV s) 4=num (vI s.2.1):=rfl
  have e3:numAt (stV s) 8=num (vI s.2.2.1):=rfl
  have e4:numAt (stV s) 12=num (vI s.2.2.2):=rfl
  unfold unST
  rw [e1,e2,e3,e4,num_vI h.a,num_vI h.b,num_vI h.c,num_vI h.d]
noncomputable def pOf (m:KV) (t:Int):ST:=unST ((mget m (.int .u8 t)).getD (stV s0))
def asst (s:ST):Int:=(hAdd s.1 s.2.1).1
def StK (K:MK):Prop:= ∀x,K.OkV x↔ ∃v,okS v/\x=stV v
theorem StK.get {K:MK} (hK:StK K) {m:KV} (h:KOK K m) (k:Value): ∃v,okS v/\(mget m k).getD (stV s0)=stV v:=by
  cases hg:mget m k with
  | none=>exact ⟨s0,okS0,rfl⟩
  | some x=>obtain ⟨v,hv,rfl⟩:=(hK x).1 (h.val hg);exact ⟨v,hv,rfl⟩
theorem StK.of {K:MK} (hK:StK K) {m:KV} (h:KOK K m) (t:Int):okS (pOf m t):=by
  obtain ⟨v,hv,e⟩:=hK.get h (.int .u8 t)
  unfold pOf;rw [e,un_stV hv];exact hv
theorem pOf_set (m:KV) {t:Int} {s:ST} (hs:okS s) (t' :Int):pOf (mset m (.int .u8 t) (stV s)) t' =if t' =t then s else pOf m t' :=by
  unfold pOf
  rw [mget_set]
  by_cases e:t' =t
  · rw [if_pos (by rw [e]),if_pos e];exact un_stV hs
  · rw [if_neg (by intro x;injection x with _ x;exact e x),if_neg e]
theorem bal_set (m:KV) {t p n:Int} (hn:R4 n) (t' p' :Int):bal (mset m (kk t p) (vI n)) t' p' =if t' =t/\p' =p then n else bal m t' p' :=by
  unfold bal
  rw [mget_set]
  by_cases e:t' =t/\p' =p
  · rw [if_pos (kk_inj.2 e),if_pos e];exact num_vI hn
  · rw [if_neg (fun x=>e (kk_inj.1 x)),if_neg e]
end Go.Sx
namespace Go.Sx
open Go.RowKit
end Go.Sx
namespace Go.Sx
open Go.RowKit
theorem own_alloc {H:Hp} {R:HP} {w:World} (h:Own H R w) (i:Nat) (o:Obj):Own (upd H i (.blk w.heap.size o)) R (w.alloc o):=
  h.new (World.alloc_heap_new w o) (fun c hc=>Below.heap_alloc w o c hc)
theorem ext_alloc (w:World) (o:Obj):Ext w (w.alloc o):=⟨rfl,rfl,rfl,by simp,by first | exact Nat.le_refl _ | exact Nat.le_succ _ | simp⟩
abbrev recOf (fn:FuncId) (tmps:Array Value) (ps:Array Tmp) (asg b:Code) (D:Nat):Loop:= { state:= .ready,pending:=none,fn,tmps,params:=ps,assign:=asg,body:=b,defers:=D }
abbrev loopB (l:Nat) (r:Loop):Slot:= .blk l (.loop r)
end Go.Sx
namespace Go.Sx
open Go.RowKit
theorem CallT.imp {P:Program} {f:FuncId} {args:Array Value} {Hs Ks:List Slot} {X Y:Type} {val:X->Value} {us:X->List Slot} {Φ:X->Prop} {val' :Y->Value} {us' :Y->List Slot} {Ψ:Y->Prop} (h:CallT P f args Hs X val us Φ) (hp:Imp Ks Hs)
    (hq: ∀x R w,Φ x->Own (ofList (us x)) R w-> ∃y,Ψ y/\val x=val' y/\Own (ofList (us' y)) R w):CallT P f args Ks Y val' us' Ψ:=
  ⟨h.enter,fun R w hw=>(h.calls R w (hp R w hw)).mono fun _ w' ⟨x,hx,he,ho,hext⟩=>let ⟨y,hy,hv,ho'⟩:=hq x R w' hx ho;⟨y,hy,hv▸he,ho',hext⟩⟩
end Go.Sx
namespace Go.Sx
open Go.RowKit
end Go.Sx
namespace Go.Sx
open Go.RowKit
end Go.Sx
namespace Go.Sx
def xor32 (a b:Int):Int:=IntKind.u32.wrap (((BitVec.ofInt 32 a^^^BitVec.ofInt 32 b:BitVec 32).toNat:Nat):Int)
def and32 (a b:Int):Int:=IntKind.u32.wrap (((BitVec.ofInt 32 a &&& BitVec.ofInt 32 b:BitVec 32).toNat:Nat):Int)
def or32 (a b:Int):Int:=IntKind.u32.wrap (((BitVec.ofInt 32 a ||| BitVec.ofInt 32 b:BitVec 32).toNat:Nat):Int)
def not32 (a:Int):Int:=IntKind.u32.wrap (((BitVec.ofInt 32 4294967295^^^BitVec.ofInt 32 a:BitVec 32).toNat:Nat):Int)
def add32 (a b:Int):Int:=IntKind.u32.wrap (a+b)
def shr32 (n:Nat) (a:Int):Int:=Int.fdiv a (2^n)
def rotl (s:Nat) (x:Int):Int:=or32 (IntKind.u32.wrap (x*2^s)) (Int.fdiv x (2^(32 - s)))
def rotr (n:Nat) (x:Int):Int:=rotl (32 - n) x
def tur (a b c:Nat) (x:Int):Int:=xor32 (xor32 (rotr a x) (rotr b x)) (rotr c x)
def sg0 (x:Int):Int:=xor32 (xor32 (rotr 7 x) (rotr 18 x)) (shr32 3 x)
def sg1 (x:Int):Int:=xor32 (xor32 (rotr 17 x) (rotr 19 x)) (shr32 10 x)
def nx0 (l:List Int) (i:Nat):Int:=add32 (l.getD (i - 16) 0) (l.getD (i - 7) 0)
def nx (l:List Int) (i:Nat):Int:=add32 (add32 (nx0 l i) (sg0 (l.getD (i - 15) 0))) (sg1 (l.getD (i - 2) 0))
structure S8 where
  (a b c d e f g h:Int)
def S8.ch (s:S8):Int:=xor32 (and32 s.e s.f) (and32 (not32 s.e) s.g)
def S8.mj (s:S8):Int:=xor32 (xor32 (and32 s.a s.b) (and32 s.a s.c)) (and32 s.b s.c)
def S8.t1 (s:S8) (k w:Int):Int:=add32 (add32 (add32 (add32 s.h (tur 6 11 25 s.e)) s.ch) k) w
def S8.t2 (s:S8):Int:=add32 (tur 2 13 22 s.a) s.mj
end Go.Sx
namespace Go.Sx
end Go.Sx
namespace Go.Sx
end Go.Sx
namespace Go.Sx
open Go.RowKit
def bv (l:List Int):List Value:=l.map (Value.int .u8)
structure BOK (r:Row):Prop where
  eq:vals r=bv (dg r)
def hV (f:Nat->Int):Value:= .agg #[.int .u8 (f 0), .int .u8 (f 1), .int .u8 (f 2), .int .u8 (f 3), .int .u8 (f 4), .int .u8 (f 5), .int .u8 (f 6), .int .u8 (f 7), .int .u8 (f 8), .int .u8 (f 9), .int .u8 (f 10), .int .u8 (f 11), .int .u8 (f 12), .int .u8 (f 13), .int .u8 (f 14), .int .u8 (f 15), .int .u8 (f 16), .int .u8 (f 17), .int .u8 (f 18), .int .u8 (f 19), .int .u8 (f 20), .int .u8 (f 21), .int .u8 (f 22), .int .u8 (f 23), .int .u8 (f 24), .int .u8 (f 25), .int .u8 (f 26), .int .u8 (f 27), .int .u8 (f 28), .int .u8 (f 29), .int .u8 (f 30), .int .u8 (f 31)]
end Go.Sx
namespace Go.Sx
end Go.Sx
namespace Go.Sx
open Go.RowKit
end Go.Sx
namespace Go.Sx
open Go.RowKit
end Go.Sx
namespace Go.Sx
open Go.RowKit
end Go.Sx
namespace Go.Sx
open Go.RowKit
end Go.Sx
namespace Go.Sx
open Go.RowKit
def fl (l:List Value):List Value:=l.flatMap fun v=>v.cells.toList
theorem fl_append (a b:List Value):fl (a++b)=fl a++fl b:=by simp [fl]
def Ag (k:Nat) (v:Value):Prop:= ∃cs,v= .agg cs/\cs.size=k
theorem fl_cons (v:Value) (l:List Value):fl (v::l)=v.cells.toList++fl l:=by simp [fl]
theorem Ag.len {k:Nat} {v:Value} (h:Ag k v):v.cells.toList.length=k:=by obtain ⟨cs,rfl,h⟩:=h;simpa [Value.cells] using h
theorem Ag.eq {k:Nat} {v:Value} (h:Ag k v):v= .agg v.cells:=by obtain ⟨cs,rfl,h⟩:=h;rfl
theorem fl_length {k:Nat}: ∀ {l:List Value},(∀v∈l,Ag k v)->(fl l).length=l.length*k
  | [],_=>by simp [fl]
  | v :: l, h => by
    rw [fl_cons,List.length_append,(h v (List.mem_cons_self ..)).len,fl_length fun v hv=>h v (List.mem_cons_of_mem _ hv),List.length_cons,Nat.succ_mul,Nat.add_comm]
theorem fl_get {k : Nat} : ∀ {l : List Value} (_ : ∀ v ∈ l, Ag k v) {n : Nat} {x : Value} (_ : l[n]? = some x) {j : Nat} {c : Value} (_ : x.cells.toList[j]? = some c), (fl l)[n * k + j]? = some c
  | [],_,n,x,hn,_,_,_=>by simp at hn
  | v :: l, h, n, x, hn, j, c, hj => by
    have hv:=(h v (List.mem_cons_self ..)).len
    rw [fl_cons]
    cases n with
    | zero =>
      simp at hn;subst hn
      have:j<v.cells.toList.length:=by
        rcases Nat.lt_or_ge j v.cells.toList.length with q | q
        · exact q
        · rw [List.getElem?_eq_none q] at hj;cases hj
      rw [Nat.zero_mul,Nat.zero_add,List.getElem?_append_left this,hj]
    | succ n =>
      rw [List.getElem?_append_right (by rw [hv,Nat.succ_mul];omega),hv,show (n+1)*k+j - k=n*k+j by rw [Nat.succ_mul];omega]
      exact fl_get (fun v hv=>h v (List.mem_cons_of_mem _ hv)) (by simpa using hn) hj
theorem fl_chunk {k:Nat}: ∀ (n:Nat) (l:List Value),l.length=n*k-> ∃ex:List Value,ex.length=n/\fl ex=l/\ ∀v∈ex,Ag k v
  | 0, l, h => ⟨[], rfl, by cases l with
    | nil=>rfl
    | cons a l=>simp at h,fun v hv=>by cases hv⟩
  | n + 1, l, h => by
    rw [Nat.succ_mul] at h
    obtain ⟨ex,h1,h2,h3⟩:=fl_chunk (k:=k) n (l.drop k) (by rw [List.length_drop];omega)
    refine ⟨.agg (l.take k).toArray::ex,by simp [h1],?_,fun v hv=> ?_⟩
    · rw [fl_cons,h2];simp [Value.cells]
    · rcases List.mem_cons.1 hv with rfl | hv
      · exact ⟨_,rfl,by simp;omega⟩
      · exact h3 v hv
def Row.Ag (k:Nat):Row->Prop | .nil=>True | .mk _ vs ex=> ∀v∈vs++ex,Sx.Ag k v
def RK (k:Nat):= { r:Row//r.Ag k }
def RK.nil (k:Nat):RK k:=⟨.nil,trivial⟩
def sk (e:TypeId):Row->Slot
  | .nil=> .free
  | .mk b vs ex=> .blk b (.cells (fl (vs++ex)).toArray e (0,0))
structure SkT (P:Program) (t e:TypeId) (k:Nat) (z:Value):Prop where
  und:P.underlying t=some (.slice e)
  info: ∃i,P.info? e=some i/\i.zero=some z/\i.size=k/\i.bytes<=4096
  zc:z.cells.size=k
  agg: ∀w,(isAgg e).run P w= .ok true w
theorem SkT.of {P:Program} {t e:TypeId} {k:Nat} {z:Value} (h1:P.underlying t=some (.slice e)) (h3:(P.info? e).bind (·.zero)=some z) (h4:(P.info? e).map (fun i=>(i.size,Nat.ble i.bytes 4096))=some (k,true)) (h5:z.cells.size=k) (h6: ∀w,(isAgg e).run P w= .ok true w):SkT P t e k z:=by
  refine ⟨h1,?_,h5,h6⟩
  cases hi:P.info? e with
  | none=>rw [hi] at h3;cases h3
  | some i =>
    rw [hi] at h3 h4
    simp at h3 h4
    exact ⟨i,rfl,h3,h4.1,h4.2⟩
theorem SkT.size {P:Program} {t e:TypeId} {k:Nat} {z:Value} (h:SkT P t e k z) (w:World):(sizeOf e).run P w= .ok k w:=by
  obtain ⟨i,hi,hz,hs,hb⟩:=h.info
  simp [sizeOf,typeInfo,hi,hs]
theorem xlenK {P:Program} {t e:TypeId} {k:Nat} {z:Value} (h:SkT P t e k z) (ty:TypeId) (r:Row):PureRun P (do pure (.value (←Builtin.len_ #[t] ty #[sv r]))) (.int .i64 ((vlen (sv r):Nat):Int)):=by
  intro w
  cases r<;>simp [Builtin.len_,run_underlying h.und,sv,vlen,goInt]
def f_idxK (k:Nat):List Value->Value:=fun vs=> .pointer (some ⟨vblk (varg vs 0),(ci (varg vs 1)).toNat*k,none⟩)
theorem xidxK {P:Program} {t e:TypeId} {n:Nat} {z:Value} (h:SkT P t e n z) (r:Row) (k:IntKind) (i:Int) (h0:0<=i) (h1:i<((vals r).length:Nat)):
    PureRun P (do pure (.value (←Instr.indexAt t (sv r) (.int k i)))) (.pointer (some ⟨vblk (sv r),i.toNat*n,none⟩)):=by
  intro w
  cases r with
  | nil=>simp [vals] at h1;omega
  | mk b vs ex =>
    have hc:0<=i/\i<(vs.length:Int):=⟨h0,h1⟩
    simp [Instr.indexAt,run_underlying h.und,sv,asIntOf,hc,h.size w,vblk,Addr.add]
    omega
theorem xgetK {P:Program} {t e:TypeId} {k:Nat} {z:Value} (h:SkT P t e k z) (r:RK k) (n:Nat) (x:Value) (hx:(vals r.1)[n]? =some x):
    OpT P (do pure (.value (←Instr.loadAt e (.pointer (some ⟨vblk (sv r.1),n*k,none⟩))))) [sk e r.1] Unit (fun _=>x) (fun _=> [sk e r.1]) (fun _=>True):=by
  obtain ⟨r,hr⟩:=r
  intro R w ho
  cases r with
  | nil=>simp [vals] at hx
  | mk b vs ex =>
    have hb:=ho.block (i:=0) rfl
    simp only [vals] at hx
    have hn:n<vs.length:=by
      rcases Nat.lt_or_ge n vs.length with q | q
      · exact q
      · rw [List.getElem?_eq_none q] at hx;cases hx
    have hx' :(vs++ex)[n]? =some x:=by rw [List.getElem?_append_left hn,hx]
    have hA:=hr x (List.mem_of_getElem? hx')
    have hcell: ∀j c,x.cells.toList[j]? =some c->w.cell? ((⟨b,n*k,none⟩:Addr).add j)=some c:=fun j c hj=>by
      have e1:(⟨b,n*k,none⟩:Addr).add j=⟨b,n*k+j,none⟩:=Addr.add_lit ..
      rw [e1]
      have:=fl_get hr hx' hj
      simp [World.cell?,hb,this]
    have hrun:=run_loadCells_list (P:=P) w ⟨b,n*k,none⟩ x.cells.toList hcell
    rw [hA.len] at hrun
    refine ⟨(),w,trivial, .inl ?_,ho,Ext.refl w⟩
    obtain ⟨cs,rfl,hcs⟩:=hA
    simp [Instr.loadAt,Instr.sureAddr,vblk,sv,loadVar,Sem.run_bind,h.agg,h.size w,hrun,Value.cells]
def putAll (cs:Array Value) (o:Nat):List Value->Array Value
  | []=>cs
  | v::vs=>putAll (cs.setIfInBounds o v) (o+1) vs
theorem heap_setCells_same (b:Nat) (t:TypeId): ∀ (vs:List Value) (o:Nat) (w:World) (cs:Array Value),w.heap[b]? =some (.cells cs t (0,0))->(w.setCells b o vs).heap[b]? =some (.cells (putAll cs o vs) t (0,0))
  | [],_,_,_,h=>h
  | v::vs,o,w,cs,h=>heap_setCells_same b t vs (o+1) _ _ (heap_setCell_same w b o cs t v h)
theorem putAll_eq: ∀ (vs a m c:List Value),m.length=vs.length->putAll (a++m++c).toArray a.length vs=(a++vs++c).toArray
  | [], a, m, c, h => by
    have:m= []:=List.eq_nil_of_length_eq_zero h
    subst this;rfl
  | v :: vs, a, m, c, h => by
    cases m with
    | nil=>simp at h
    | cons x m =>
      simp only [putAll]
      have e:((a++x::m++c).toArray.setIfInBounds a.length v)=((a++ [v])++m++c).toArray:=by simp
      rw [e]
      have:=putAll_eq vs (a++ [v]) m c (by simpa using h)
      simp only [List.length_append,List.length_singleton] at this
      rw [this];simp
theorem heap_setCells_other' (b:Nat): ∀ (vs:List Value) (o:Nat) (w:World) (c:Nat),c≠b->(w.setCells b o vs).heap[c]? =w.heap[c]?
  | [],_,_,_,_=>rfl
  | v::vs,o,w,c,h=>(heap_setCells_other' b vs (o+1) _ c h).trans (heap_setCell_other w _ c v h)
theorem ext_setCells (b:Nat): ∀ (vs:List Value) (o:Nat) (w:World),Ext w (w.setCells b o vs)
  | [],_,w=>Ext.refl w
  | v::vs,o,w=>Ext.trans (b:=w.setCell ⟨b,o,none⟩ v) ⟨rfl,rfl,rfl,by simp,by first | exact Nat.le_refl _ | exact Nat.le_succ _ | simp⟩ (ext_setCells b vs (o+1) _)
theorem xappK {P : Program} {t e : TypeId} {k : Nat} {z : Value} (h : SkT P t e k z) (ty : TypeId) (r : RK k) (hl : (vals r.1).length <= 1073741824) (c m : Nat) (x : Value) (hx : Ag k x) (h2 : ∀ u ∈ x.cells.toList, u.oneCell' = true) :
    OpT P (do pure (.value (←Builtin.append_ #[t,t] ty #[sv r.1, .slice (some ⟨c,0,none⟩) 1 m]))) [sk e r.1, .blk c (.cells x.cells e (0,0))] (RK k) (fun y=>sv y.1) (fun y=> [sk e y.1, .blk c (.cells x.cells e (0,0))]) (fun y=>vals y.1=vals r.1++ [x]):=by
  obtain ⟨r,hr⟩:=r
  intro R w h0
  obtain ⟨i,hi,hz,hs,hby⟩:=h.info
  have hc:=h0.block (i:=1) rfl
  have hxl:=hx.len
  have hnews: ∀j u,x.cells.toList[j]? =some u->w.cell? ((⟨c,0,none⟩:Addr).add j)=some u:=by
    intro j u hu
    have e1:(⟨c,0,none⟩:Addr).add j=⟨c,0+j,none⟩:=Addr.add_lit ..
    rw [e1,Nat.zero_add]
    simpa [World.cell?,hc] using hu
  have upd1: ∀ (s:Slot),upd (ofList [sk e r, .blk c (.cells x.cells e (0,0))]) 0 s=ofList [s, .blk c (.cells x.cells e (0,0))]:=by
    intro s;funext i
    cases i with
    | zero=>rfl
    | succ i=>cases i<;>rfl
  have fresh: ∀ (o:Obj),Own (ofList [.blk w.heap.size o, .blk c (.cells x.cells e (0,0))]) R (w.drew.alloc o):=by
    intro o
    have:=h0.new (w' :=w.drew.alloc o) (i:=0) (o:=o) (heap_alloc_new w.drew o) (fun c hc=>heap_alloc_old w.drew o c hc)
    rw [upd1] at this
    exact this
  have ext: ∀ (o:Obj),Ext w (w.drew.alloc o):=fun o=>⟨rfl,rfl,rfl,by simp,by first | exact Nat.le_refl _ | exact Nat.le_succ _ | simp⟩
  have zl: ∀n,∃ex:List Value,ex.length=n/\fl ex=(Builtin.zeroCells z.cells n).toList/\ ∀v∈ex,Ag k v:=by
    intro n
    exact fl_chunk n _ (by rw [Array.length_toList,size_zeroCells,h.zc])
  cases r with
  | nil =>
    have hrn:=run_append_nil (P:=P) w t ty e i z h.und hi hz ⟨c,0,none⟩ 1 m x.cells.toList (by rw [hs,hxl,Nat.one_mul]) hnews (by decide) (by decide) (by omega)
    obtain ⟨ex,he,hf,hA⟩:=zl (grownCap w 1 0 e - 1)
    have hge:=grownCap_ge w 1 0 e
    have ef:fl ([x]++ex)=x.cells.toList++(Builtin.zeroCells z.cells (grownCap w 1 0 e - 1)).toList:=by rw [fl_append,hf,fl_cons];simp [fl]
    refine ⟨⟨.mk w.heap.size [x] ex,fun v hv=>by
      rcases List.mem_append.1 hv with hv | hv
      · simp at hv;subst hv;exact hx
      · exact hA v hv⟩,_,rfl, .inl ?_,?_,ext (.cells (fl ([x]++ex)).toArray e)⟩
    · simp only [sv]
      show (Sem.run P (Builtin.append_ _ _ _>>=_) w)=_
      rw [Sem.run_bind,hrn]
      have:1+ex.length=grownCap w 1 0 e:=by omega
      have e2:(x.cells.toList.toArray++Builtin.zeroCells z.cells (grownCap w 1 0 e - 1))=(fl ([x]++ex)).toArray:=by rw [ef];apply Array.ext';simp
      rw [e2]
      simp [this,Result.andThen]
    · exact fresh (.cells (fl ([x]++ex)).toArray e)
  | mk b vs ex =>
    simp only [vals] at hl
    have hb:=h0.block (i:=0) rfl
    have hA: ∀v∈vs++ex,Ag k v:=hr
    have hv1: ∀v∈vs,Ag k v:=fun v hv=>hA v (List.mem_append_left _ hv)
    have hv2: ∀v∈ex,Ag k v:=fun v hv=>hA v (List.mem_append_right _ hv)
    have hbb:w.heap[b]? =some (.cells (fl (vs++ex)).toArray e (0,0)):=hb
    by_cases hroom:vs.length+1<=vs.length+ex.length
    · cases ex with
      | nil=>exact absurd hroom (by simp)
      | cons e0 ex =>
        have he0:=(hv2 e0 (List.mem_cons_self ..)).len
        have hcell: ∀j,j<x.cells.toList.length->(w.cell? ⟨b,0+vs.length*i.size+j,none⟩).isSome=true:=by
          intro j hj
          rw [hs,Nat.zero_add]
          have hlen:vs.length*k+j<(fl (vs++e0::ex)).length:=by
            rw [fl_length hA,List.length_append,List.length_cons,Nat.add_mul,Nat.succ_mul];omega
          simp [World.cell?,hbb,List.getElem?_eq_getElem hlen]
        have hrn:=run_append_room_cells (P:=P) w t ty e i h.und hi b 0 vs.length (vs.length+(e0::ex).length) ⟨c,0,none⟩ 1 m x.cells.toList (by rw [hs,hxl,Nat.one_mul]) hnews h2 hroom hcell (fun j hj=>frozen_of_row w b _ _ e hbb)
        rw [hs,Nat.zero_add] at hrn
        have hh:=heap_setCells_same b e x.cells.toList (vs.length*k) w _ hbb
        have hset:putAll (fl (vs++e0::ex)).toArray (vs.length*k) x.cells.toList=(fl (vs++ [x]++ex)).toArray:=by
          have:=putAll_eq x.cells.toList (fl vs) e0.cells.toList (fl ex) (by rw [he0,hxl])
          rw [fl_length hv1] at this
          rw [show fl (vs++e0::ex)=fl vs++e0.cells.toList++fl ex by rw [fl_append,fl_cons,List.append_assoc],this,fl_append,fl_append]
          simp [fl]
        rw [hset] at hh
        refine ⟨⟨.mk b (vs++ [x]) ex,fun v hv=>by
          rcases List.mem_append.1 hv with hv | hv
          · rcases List.mem_append.1 hv with hv | hv
            · exact hv1 v hv
            · simp at hv;subst hv;exact hx
          · exact hv2 v (List.mem_cons_of_mem _ hv)⟩,w.setCells b (vs.length*k) x.cells.toList,rfl, .inl ?_,?_,ext_setCells b _ _ w⟩
        · simp only [sv]
          rw [Sem.run_bind,hrn]
          simp [Nat.add_comm,Nat.add_left_comm,Result.andThen]
        · have:=h0.set (i:=0) (b:=b) rfl hh (fun c hc=>heap_setCells_other' b _ _ w c hc)
          rw [upd1] at this
          exact this
    · have hex:ex= []:=by cases ex with
        | nil=>rfl
        | cons a l=>simp at hroom
      subst hex
      have holds: ∀j u,(fl vs)[j]? =some u->w.cell? ((⟨b,0,none⟩:Addr).add j)=some u:=by
        intro j u hu
        have:(⟨b,0,none⟩:Addr).add j=⟨b,0+j,none⟩:=Addr.add_lit ..
        rw [this]
        simp only [List.append_nil] at hbb
        simp [World.cell?,hbb,hu]
      have hfit:Builtin.nextslicecap (vs.length+1) (vs.length+([]:List Value).length)*i.bytes<=281474976710656:=by
        refine growslice_fits (by simp) ?_
        have:(vs.length+1)*i.bytes<=1073741825*4096:=Nat.mul_le_mul (by omega) hby
        omega
      have hrn:=run_append_grow (P:=P) w t ty e i z h.und hi hz ⟨b,0,none⟩ vs.length (vs.length+([]:List Value).length) (fl vs) (by rw [hs,fl_length hv1]) holds ⟨c,0,none⟩ 1 m x.cells.toList (by rw [hs,hxl,Nat.one_mul]) hnews (by simp) (by omega) hfit
      obtain ⟨ex,he,hf,hA2⟩:=zl (grownCap w (vs.length+1) (vs.length+([]:List Value).length) e - (vs.length+1))
      have hge:=grownCap_ge w (vs.length+1) (vs.length+([]:List Value).length) e
      have ef:(fl vs).toArray++x.cells.toList.toArray++Builtin.zeroCells z.cells (grownCap w (vs.length+1) (vs.length+([]:List Value).length) e - (vs.length+1))=(fl (vs++ [x]++ex)).toArray:=by
        rw [fl_append,fl_append,hf];apply Array.ext';simp [fl]
      rw [ef] at hrn
      refine ⟨⟨.mk w.heap.size (vs++ [x]) ex,fun v hv=>by
          rcases List.mem_append.1 hv with hv | hv
          · rcases List.mem_append.1 hv with hv | hv
            · exact hv1 v hv
            · simp at hv;subst hv;exact hx
          · exact hA2 v hv⟩,w.drew.alloc (.cells (fl (vs++ [x]++ex)).toArray e),rfl, .inl ?_,fresh _,ext _⟩
      simp only [sv]
      rw [Sem.run_bind,hrn]
      have e1:(vs++ [x]).length=vs.length+1:=by simp
      have e2:(vs++ [x]).length+ex.length=grownCap w (vs.length+1) (vs.length+([]:List Value).length) e:=by rw [e1];omega
      rw [e2,e1];rfl
end Go.Sx
namespace Go.Sx
open Go.RowKit Go.Proofs Go.Shelf
end Go.Sx
namespace Go.Sx
open Go.RowKit
abbrev MS3:=MK×Nat×KV
noncomputable def Ent.undo (e:Ent) (m:KV):KV:=match e.was with | some v=>mset m e.key v | none=>mdel m e.key
structure EOK (P:Program) (bj:Nat) (K:MK) (e:Ent):Prop where
  call: ∀ (a:N4) (m:KV),CallT P e.g #[ptr a.1,ptr a.2.1,ptr a.2.2.1,ptr a.2.2.2] (mS K e.b bj m::e.sl a) Unit (fun _=>undef) (fun _=>mS K e.b bj (e.undo m)::e.sl a) (fun _=>True)
end Go.Sx
namespace Go.Sx
open Go.RowKit
end Go.Sx
namespace Go.Sx
open Go.RowKit
def rdK (k:Nat) (cs:Array Value) (o:Nat):Value:= .agg ((cs.toList.drop o).take k).toArray
theorem fl_drop {k:Nat}: ∀ {l:List Value} (_: ∀v∈l,Ag k v) (n:Nat),(fl l).drop (n*k)=fl (l.drop n)
  | [],_,n=>by simp [fl]
  | v::l,h,0=>by simp
  | v :: l, h, n + 1 => by
    rw [fl_cons,List.drop_succ_cons,←fl_drop (fun v hv=>h v (List.mem_cons_of_mem _ hv)) n,List.drop_append,(h v (List.mem_cons_self ..)).len]
    have h1:v.cells.toList.drop ((n+1)*k)= []:=List.drop_eq_nil_of_le (by rw [(h v (List.mem_cons_self ..)).len,Nat.succ_mul];omega)
    rw [h1,List.nil_append,Nat.succ_mul,Nat.add_sub_cancel]
theorem rdK_fl {k:Nat} {l:List Value} (h: ∀v∈l,Ag k v) {n:Nat} {x:Value} (hx:l[n]? =some x):rdK k (fl l).toArray (n*k)=x:=by
  have hd:l.drop n=x::l.drop (n+1):=by
    have hlt:n<l.length:=by
      rcases Nat.lt_or_ge n l.length with q | q
      · exact q
      · rw [List.getElem?_eq_none q] at hx;cases hx
    rw [List.getElem?_eq_getElem hlt] at hx
    injection hx with hx
    rw [←hx];exact List.drop_eq_getElem_cons hlt
  have hA:=h x (List.mem_of_getElem? hx)
  unfold rdK
  rw [List.toList_toArray,fl_drop h,hd,fl_cons,List.take_append_of_le_length (by rw [hA.len];exact Nat.le_refl _)]
  obtain ⟨cs,rfl,hcs⟩:=hA
  have:(cs.toList).length<=k:=by simp [hcs]
  simp only [Value.cells]
  rw [List.take_of_length_le this]
def kvals (k:Nat) (v:Value) (s:Slot):List Value:=(List.range (vlen v)).map fun i=>rdK k (scells s) (i*k)
theorem kvals_eq {k:Nat} (r:RK k) (e:TypeId):kvals k (sv r.1) (sk e r.1)=vals r.1:=by
  obtain ⟨r,hr⟩:=r
  cases r with
  | nil=>rfl
  | mk b vs ex =>
    unfold kvals
    apply List.ext_getElem?
    intro i
    simp only [sv,vlen,sk,scells,vals]
    rcases Nat.lt_or_ge i vs.length with q | q
    · have hx:(vs++ex)[i]? =some vs[i]:=by rw [List.getElem?_append_left q,List.getElem?_eq_getElem q]
      rw [List.getElem?_map,List.getElem?_range q,Option.map_some,rdK_fl hr hx,List.getElem?_eq_getElem q]
    · rw [List.getElem?_eq_none (by simpa using q),List.getElem?_eq_none q]
def F_appK (k:Nat) (e:TypeId):List Value->List Slot->Ctr:=fun vs hs=>⟨RK k,fun y=>sv y.1,fun y=> [sk e y.1,sarg hs 1],fun y=>vals y.1=kvals k (varg vs 0) (sarg hs 0)++ [.agg (scells (sarg hs 1))]⟩
theorem xappendK {P:Program} {t e:TypeId} {k:Nat} {z:Value} (h:SkT P t e k z) (ty:TypeId) (r:RK k) (hl:(vals r.1).length<=1073741824) (c m:Nat) (cs:Array Value) (hx:cs.size=k) (h2: ∀u∈cs.toList,u.oneCell' =true):
    OpT P (do pure (.value (←Builtin.append_ #[t,t] ty #[sv r.1, .slice (some ⟨c,0,none⟩) 1 m]))) [sk e r.1, .blk c (.cells cs e (0,0))] (RK k) (fun y=>sv y.1) (fun y=> [sk e y.1, .blk c (.cells cs e (0,0))]) (fun y=>vals y.1=kvals k (sv r.1) (sk e r.1)++ [.agg cs]):=by
  rw [kvals_eq]
  exact xappK h ty r hl c m (.agg cs) ⟨cs,rfl,hx⟩ h2
theorem wit_appK {k:Nat} {l:List Value} {cs:Array Value} (hl: ∀v∈l,Ag k v) (hx:cs.size=k): ∃y:RK k,(fun y:RK k=>vals y.1=l++ [.agg cs]) y:=
  ⟨⟨.mk 0 (l ++ [.agg cs]) [], fun v hv => by
    simp only [List.append_nil] at hv
    rcases List.mem_append.1 hv with h | h
    · exact hl v h
    · simp at h;subst h;exact ⟨cs,rfl,hx⟩⟩,rfl⟩
theorem RK.all {k:Nat} (r:RK k): ∀v∈vals r.1,Ag k v:=by
  obtain ⟨r,hr⟩:=r
  cases r with
  | nil=>intro v hv;cases hv
  | mk b vs ex=>exact fun v hv=>hr v (List.mem_append_left _ hv)
theorem kvals_all {k:Nat} (r:RK k) (e:TypeId): ∀v∈kvals k (sv r.1) (sk e r.1),Ag k v:=by rw [kvals_eq];exact r.all
theorem rdK_row {k:Nat} (r:RK k) (e:TypeId) {n:Nat} {x:Value} (hx:(vals r.1)[n]? =some x):rdK k (scells (sk e r.1)) (n*k)=x:=by
  obtain ⟨r,hr⟩:=r
  cases r with
  | nil=>simp [vals] at hx
  | mk b vs ex =>
    simp only [vals] at hx
    have hn:n<vs.length:=by
      rcases Nat.lt_or_ge n vs.length with q | q
      · exact q
      · rw [List.getElem?_eq_none q] at hx;cases hx
    exact rdK_fl hr (by rw [List.getElem?_append_left hn,hx])
theorem int_at {kk:IntKind} {l:List Value} (h: ∀v∈l,∃n:Int,v= .int kk n) {n:Nat} (hn:n<l.length): ∃x:Int,l[n]? =some (.int kk x):=by
  obtain ⟨x,hx⟩:=h _ (List.getElem_mem hn)
  exact ⟨x,by rw [List.getElem?_eq_getElem hn,hx]⟩
abbrev p2V (x:Int×Int):Value:= .agg #[.int .i64 x.1, .int .i64 x.2]
noncomputable def pairsOf (z:Value) (m:KV) (l:List Value):List Value:=l.map fun k=> .agg #[k,(mget m k).getD z]
theorem kok_val {K:MK} {m:KV} (hk:KOK K m) {z:Value} (hz:K.OkV z) (k:Value):K.OkV ((mget m k).getD z):=by
  cases hg:mget m k with
  | none=>exact hz
  | some v=>exact (hk.ok _ (mget_mem hg)).2
end Go.Sx
namespace Go.Sx
open Go.RowKit
def RK.set {k : Nat} (r : RK k) (n : Nat) (v : Value) (hv : Ag k v) : RK k := ⟨r.1.set n v, by
  obtain ⟨r,hr⟩:=r
  cases r with
  | nil=>trivial
  | mk b vs ex =>
    intro x hx
    rcases List.mem_append.1 hx with hx | hx
    · rcases List.mem_or_eq_of_mem_set hx with hx | rfl
      · exact hr x (List.mem_append_left _ hx)
      · exact hv
    · exact hr x (List.mem_append_right _ hx)⟩
def RK.take {k : Nat} (r : RK k) (m : Nat) : RK k := ⟨r.1.take m, by
  obtain ⟨r,hr⟩:=r
  cases r with
  | nil=>trivial
  | mk b vs ex =>
    intro x hx
    refine hr x ?_
    rcases List.mem_append.1 hx with hx | hx
    · exact List.mem_append_left _ (List.mem_of_mem_take hx)
    · rcases List.mem_append.1 hx with hx | hx
      · exact List.mem_append_left _ (List.mem_of_mem_drop hx)
      · exact List.mem_append_right _ hx⟩
end Go.Sx
