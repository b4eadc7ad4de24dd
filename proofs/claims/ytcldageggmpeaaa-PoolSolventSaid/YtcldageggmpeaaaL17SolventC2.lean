/- Contracts of this program's functions, and their proofs, printed by a program of the prover's own (see the claim's other texts for what the words mean). -/
import Derived.Test.YtcldageggmpeaaaL17SolventC1
set_option linter.unusedVariables false
set_option linter.unusedSimpArgs false
namespace Go.Proofs
open Go.Sx
set_option maxRecDepth 100000 in
theorem wide_step4 (b:Nat) (cs:Array Value) (j cap:Nat) (u0 u1 u2 u3 u4:Int) (c:Nat) (v0 v1 v2 v3:Int) (hsz:j+5<=cs.size) (hu0:cs[j+0]? =some (uu u0)) (hu1:cs[j+1]? =some (uu u1)) (hu2:cs[j+2]? =some (uu u2)) (hu3:cs[j+3]? =some (uu u3)) (hu4:cs[j+4]? =some (uu u4)) (wu0:W u0) (wu1:W u1) (wu2:W u2) (wu3:W u3) (wu4:W u4) (wv0:W v0) (wv1:W v1) (wv2:W v2) (wv3:W v3) (hlt:l5 u0 u1 u2 u3 u4<(l4 v0 v1 v2 v3)*18446744073709551616) (hv:0<v3):wide_step4_A b cs j cap u0 u1 u2 u3 u4 c v0 v1 v2 v3 (fun za zh zv zu zp=>CallT Try.prog 231 za zh (Int×Int×Int×Int×Int×Int) zv zu zp):=by
  refine call_of (c:=bodyOf Try.f231) (n:=132) (fn:=Try.f231) Try.mixed Try.func231 (by kernel_rfl) (by kernel_rfl) (by kernel_rfl) 2000 _ [] [0,1] rfl rfl (Eq.mpr (wide_step4_vc b cs j cap u0 u1 u2 u3 u4 c v0 v1 v2 v3) ?_)
  refine ⟨?_,fun x1 jx1 h1=> ?_⟩
  · refine rdQ_mk 1 _ ⟨hu4,rdQ_mk 1 _ ⟨hu3,rdQ_mk 1 _ (limb_Div_m u4 u3 v3 (fun x2 h2=> ?_) (hd:=⟨wu4,wu3,wv3⟩))⟩⟩
    refine ⟨?_,fun x3 jx3 h3=> ?_⟩
    · refine ⟨fun h4=> ?_,fun h4=> ?_⟩
      · exact ⟨_,guess_max hlt,rfl,rfl,rfl,rfl,rfl,rfl,rfl,trivial⟩
      exact ⟨_,guess_ok4 (by assumption) (by assumption) hv wu0 wu1 wu2 wu3 wu4 wv0 wv1 wv2 wv3,rfl,rfl,rfl,rfl,rfl,rfl,rfl,trivial⟩
    have wg:=h3.w
    refine ⟨rfl,rdQ_mk 1 _ (limb_Mul_m x3 v0 (fun x4 h5=> ?_))⟩
    have wh5:=h5.h;have wlh5:=h5.l
    refine limb_Add_m x4.2 (0:Int) (0:Int) (fun x5 h6=> ?_)
    have wh6:=h6.s;have woh6:=h6.o0;have wph6:=h6.o1
    refine ⟨⟨(),trivial,congrArg (Value.int .u64) (wrap_W (row_w (by assumption) (by assumption) (by assumption) (by assumption)))⟩,fun _=>fun _=> ?_⟩
    have wo0:W ((x4.1+x5.2)):=row_w (by assumption) (by assumption) (by assumption) (by assumption)
    refine rdQ_mk 1 _ ⟨hu0,limb_Sub_m u0 x5.1 (0:Int) (fun x6 h7=> ?_)⟩
    have wh7:=h7.s;have woh7:=h7.o0;have wph7:=h7.o1
    refine rdQ_mk 1 _ ⟨rfl,by first | omega | (simp only [Array.size_setIfInBounds,setw_size];omega),frz0 _,?_⟩
    have f0:=sub_step (g:=x3) (v:=v0) (h:=x4.1) (o:=0) (s:=x5.1) (c:=x5.2) (u:=u0) (br:=0) (by assumption) (by assumption) (by assumption) (by decide) (by decide)
    refine ⟨rfl,rdQ_mk 1 _ (limb_Mul_m x3 v1 (fun x7 h8=> ?_))⟩
    have wh8:=h8.h;have wlh8:=h8.l
    refine limb_Add_m x7.2 (x4.1+x5.2) (0:Int) (fun x8 h9=> ?_)
    have wh9:=h9.s;have woh9:=h9.o0;have wph9:=h9.o1
    refine ⟨⟨(),trivial,congrArg (Value.int .u64) (wrap_W (row_w (by assumption) (by assumption) (by assumption) (by assumption)))⟩,fun _=>fun _=> ?_⟩
    have wo1:W ((x7.1+x8.2)):=row_w (by assumption) (by assumption) (by assumption) (by assumption)
    refine rdQ_mk 1 _ ⟨gs (hu1) (by omega),limb_Sub_m u1 x8.1 x6.2 (fun x9 h10=> ?_)⟩
    have wh10:=h10.s;have woh10:=h10.o0;have wph10:=h10.o1
    refine rdQ_mk 1 _ ⟨rfl,by first | omega | (simp only [Array.size_setIfInBounds,setw_size];omega),frz0 _,?_⟩
    have f1:=sub_step (g:=x3) (v:=v1) (h:=x7.1) (o:=(x4.1+x5.2)) (s:=x8.1) (c:=x8.2) (u:=u1) (br:=x6.2) (by assumption) (by assumption) (by assumption) (by assumption) (by assumption)
    refine ⟨rfl,rdQ_mk 1 _ (limb_Mul_m x3 v2 (fun x10 h11=> ?_))⟩
    have wh11:=h11.h;have wlh11:=h11.l
    refine limb_Add_m x10.2 (x7.1+x8.2) (0:Int) (fun x11 h12=> ?_)
    have wh12:=h12.s;have woh12:=h12.o0;have wph12:=h12.o1
    refine ⟨⟨(),trivial,congrArg (Value.int .u64) (wrap_W (row_w (by assumption) (by assumption) (by assumption) (by assumption)))⟩,fun _=>fun _=> ?_⟩
    have wo2:W ((x10.1+x11.2)):=row_w (by assumption) (by assumption) (by assumption) (by assumption)
    refine rdQ_mk 1 _ ⟨gs (gs (hu2) (by omega)) (by omega),limb_Sub_m u2 x11.1 x9.2 (fun x12 h13=> ?_)⟩
    have wh13:=h13.s;have woh13:=h13.o0;have wph13:=h13.o1
    refine rdQ_mk 1 _ ⟨rfl,by first | omega | (simp only [Array.size_setIfInBounds,setw_size];omega),frz0 _,?_⟩
    have f2:=sub_step (g:=x3) (v:=v2) (h:=x10.1) (o:=(x7.1+x8.2)) (s:=x11.1) (c:=x11.2) (u:=u2) (br:=x9.2) (by assumption) (by assumption) (by assumption) (by assumption) (by assumption)
    refine ⟨rfl,rdQ_mk 1 _ (limb_Mul_m x3 v3 (fun x13 h14=> ?_))⟩
    have wh14:=h14.h;have wlh14:=h14.l
    refine limb_Add_m x13.2 (x10.1+x11.2) (0:Int) (fun x14 h15=> ?_)
    have wh15:=h15.s;have woh15:=h15.o0;have wph15:=h15.o1
    refine ⟨⟨(),trivial,congrArg (Value.int .u64) (wrap_W (row_w (by assumption) (by assumption) (by assumption) (by assumption)))⟩,fun _=>fun _=> ?_⟩
    have wo3:W ((x13.1+x14.2)):=row_w (by assumption) (by assumption) (by assumption) (by assumption)
    refine rdQ_mk 1 _ ⟨gs (gs (gs (hu3) (by omega)) (by omega)) (by omega),limb_Sub_m u3 x14.1 x12.2 (fun x15 h16=> ?_)⟩
    have wh16:=h16.s;have woh16:=h16.o0;have wph16:=h16.o1
    refine rdQ_mk 1 _ ⟨rfl,by first | omega | (simp only [Array.size_setIfInBounds,setw_size];omega),frz0 _,?_⟩
    have f3:=sub_step (g:=x3) (v:=v3) (h:=x13.1) (o:=(x10.1+x11.2)) (s:=x14.1) (c:=x14.2) (u:=u3) (br:=x12.2) (by assumption) (by assumption) (by assumption) (by assumption) (by assumption)
    refine ⟨rfl,⟨?_,fun x16 jx16 h17=> ?_⟩⟩
    · refine rdQ_mk 1 _ ⟨gs (gs (gs (gs (hu4) (by omega)) (by omega)) (by omega)) (by omega),limb_Sub_m u4 (x13.1+x14.2) x15.2 (fun x17 h18=> ?_)⟩
      have wh18:=h18.s;have woh18:=h18.o0;have wph18:=h18.o1
      refine rdQ_mk 1 _ ⟨rfl,by first | omega | (simp only [Array.size_setIfInBounds,setw_size];omega),frz0 _,?_⟩
      have fk:=SubR.eq (a:=u4) (b:=(x13.1+x14.2)) (c:=x15.2) (s:=x17.1) (o:=x17.2) (by assumption)
      rw [cin_of (c:=x15.2) (by assumption) (by assumption)] at fk
      have hd:=dist4 x3 v0 v1 v2 v3
      have he:x3*(v0+18446744073709551616*v1+340282366920938463463374607431768211456*v2+6277101735386680763835789423207666416102355444464034512896*v3)+((x6.1+18446744073709551616*x9.1+340282366920938463463374607431768211456*x12.1+6277101735386680763835789423207666416102355444464034512896*x15.1+115792089237316195423570985008687907853269984665640564039457584007913129639936*x17.1) - x17.2*2135987035920910082395021706169552114602704522356652769947041607822219725780640550022962086936576)=u0+18446744073709551616*u1+340282366920938463463374607431768211456*u2+6277101735386680763835789423207666416102355444464034512896*u3+115792089237316195423570985008687907853269984665640564039457584007913129639936*u4:=by rw [hd];omega
      have hg:=GuessR.lt (U:=u0+18446744073709551616*u1+340282366920938463463374607431768211456*u2+6277101735386680763835789423207666416102355444464034512896*u3+115792089237316195423570985008687907853269984665640564039457584007913129639936*u4) (V:=v0+18446744073709551616*v1+340282366920938463463374607431768211456*v2+6277101735386680763835789423207666416102355444464034512896*v3) (g:=x3) (by assumption)
      exact ⟨(x3,x17.2,x6.1,x9.1,x12.1,x15.1,x17.1),⟨⟨wg,by assumption,by assumption,he,by dsimp only;omega⟩,by assumption,by assumption,by assumption,by assumption,by assumption⟩,rfl,rfl,rfl,rfl,rfl,rfl,rfl,trivial⟩
    obtain ⟨L,ww0,ww1,ww2,ww3,ww4⟩:=h17
    refine ⟨fun h19=> ?_,fun h19=> ?_⟩
    · exact ⟨(x16.1,x16.2.2.1,x16.2.2.2.1,x16.2.2.2.2.1,x16.2.2.2.2.2.1,x16.2.2.2.2.2.2),⟨loop_ret (D:=x16.2.2.1+18446744073709551616*x16.2.2.2.1+340282366920938463463374607431768211456*x16.2.2.2.2.1+6277101735386680763835789423207666416102355444464034512896*x16.2.2.2.2.2.1+115792089237316195423570985008687907853269984665640564039457584007913129639936*x16.2.2.2.2.2.2) L (by assumption) (by unfold W at *;omega),ww0,ww1,ww2,ww3,ww4⟩,rfl,rfl,rfl,trivial⟩
    refine ⟨rfl,rdQ_mk 1 _ (rdQ_mk 1 _ ⟨setw_get [uu x16.2.2.1,uu x16.2.2.2.1,uu x16.2.2.2.2.1,uu x16.2.2.2.2.2.1,uu x16.2.2.2.2.2.2] cs j 0 _ (by simpa using hsz) rfl,limb_Add_m x16.2.2.1 v0 (0:Int) (fun x18 h20=> ?_)⟩)⟩
    have wh20:=h20.s;have woh20:=h20.o0;have wph20:=h20.o1
    refine rdQ_mk 1 _ ⟨rfl,by first | omega | (simp only [Array.size_setIfInBounds,setw_size];omega),frz0 _,⟨rfl,rdQ_mk 1 _ (rdQ_mk 1 _ ⟨gs (setw_get [uu x16.2.2.1,uu x16.2.2.2.1,uu x16.2.2.2.2.1,uu x16.2.2.2.2.2.1,uu x16.2.2.2.2.2.2] cs j 1 _ (by simpa using hsz) rfl) (by omega),limb_Add_m x16.2.2.2.1 v1 x18.2 (fun x19 h21=> ?_)⟩)⟩⟩
    have wh21:=h21.s;have woh21:=h21.o0;have wph21:=h21.o1
    refine rdQ_mk 1 _ ⟨rfl,by first | omega | (simp only [Array.size_setIfInBounds,setw_size];omega),frz0 _,⟨rfl,rdQ_mk 1 _ (rdQ_mk 1 _ ⟨gs (gs (setw_get [uu x16.2.2.1,uu x16.2.2.2.1,uu x16.2.2.2.2.1,uu x16.2.2.2.2.2.1,uu x16.2.2.2.2.2.2] cs j 2 _ (by simpa using hsz) rfl) (by omega)) (by omega),limb_Add_m x16.2.2.2.2.1 v2 x19.2 (fun x20 h22=> ?_)⟩)⟩⟩
    have wh22:=h22.s;have woh22:=h22.o0;have wph22:=h22.o1
    refine rdQ_mk 1 _ ⟨rfl,by first | omega | (simp only [Array.size_setIfInBounds,setw_size];omega),frz0 _,⟨rfl,rdQ_mk 1 _ (rdQ_mk 1 _ ⟨gs (gs (gs (setw_get [uu x16.2.2.1,uu x16.2.2.2.1,uu x16.2.2.2.2.1,uu x16.2.2.2.2.2.1,uu x16.2.2.2.2.2.2] cs j 3 _ (by simpa using hsz) rfl) (by omega)) (by omega)) (by omega),limb_Add_m x16.2.2.2.2.2.1 v3 x20.2 (fun x21 h23=> ?_)⟩)⟩⟩
    have wh23:=h23.s;have woh23:=h23.o0;have wph23:=h23.o1
    refine rdQ_mk 1 _ ⟨rfl,by first | omega | (simp only [Array.size_setIfInBounds,setw_size];omega),frz0 _,⟨rfl,rdQ_mk 1 _ ⟨gs (gs (gs (gs (setw_get [uu x16.2.2.1,uu x16.2.2.2.1,uu x16.2.2.2.2.1,uu x16.2.2.2.2.2.1,uu x16.2.2.2.2.2.2] cs j 4 _ (by simpa using hsz) rfl) (by omega)) (by omega)) (by omega)) (by omega),limb_Add_m x16.2.2.2.2.2.2 (0:Int) x21.2 (fun x22 h24=> ?_)⟩⟩⟩
    have wh24:=h24.s;have woh24:=h24.o0;have wph24:=h24.o1
    refine rdQ_mk 1 _ ⟨rfl,by first | omega | (simp only [Array.size_setIfInBounds,setw_size];omega),frz0 _,?_⟩
    have q:=loop_dec (k:=x22.2) (D' :=x18.1+18446744073709551616*x19.1+340282366920938463463374607431768211456*x20.1+6277101735386680763835789423207666416102355444464034512896*x21.1+115792089237316195423570985008687907853269984665640564039457584007913129639936*x22.1) L (by assumption) (by unfold W at *;omega) (by unfold W at *;omega) (by have:=addk4 (by assumption) (by assumption) (by assumption) (by assumption) (by assumption);omega) (by unfold W at *;omega) (by unfold W at *;omega) (by assumption) (by assumption) (by unfold W at *;omega) rfl
    exact ⟨(_,_,x18.1,x19.1,x20.1,x21.1,x22.1),⟨q.1,by assumption,by assumption,by assumption,by assumption,by assumption⟩,rfl,rfl,rfl,rfl,rfl,congrArg (fun z=>Slot.blk b (.cells z 346 (0,0))) (setw_setw [uu x18.1,uu x19.1,uu x20.1,uu x21.1,uu x22.1] [uu x16.2.2.1,uu x16.2.2.2.1,uu x16.2.2.2.2.1,uu x16.2.2.2.2.2.1,uu x16.2.2.2.2.2.2] cs j rfl),rfl,trivial⟩
  obtain ⟨L,ww0,ww1,ww2,ww3,ww4⟩:=h1
  refine ⟨fun h25=> ?_,fun h25=> ?_⟩
  · exact ⟨(x1.1,x1.2.2.1,x1.2.2.2.1,x1.2.2.2.2.1,x1.2.2.2.2.2.1,x1.2.2.2.2.2.2),⟨loop_ret (D:=x1.2.2.1+18446744073709551616*x1.2.2.2.1+340282366920938463463374607431768211456*x1.2.2.2.2.1+6277101735386680763835789423207666416102355444464034512896*x1.2.2.2.2.2.1+115792089237316195423570985008687907853269984665640564039457584007913129639936*x1.2.2.2.2.2.2) L (by assumption) (by unfold W at *;omega),ww0,ww1,ww2,ww3,ww4⟩,rfl,rfl,rfl,trivial⟩
  refine ⟨rfl,rdQ_mk 1 _ (rdQ_mk 1 _ ⟨setw_get [uu x1.2.2.1,uu x1.2.2.2.1,uu x1.2.2.2.2.1,uu x1.2.2.2.2.2.1,uu x1.2.2.2.2.2.2] cs j 0 _ (by simpa using hsz) rfl,limb_Add_m x1.2.2.1 v0 (0:Int) (fun x23 h26=> ?_)⟩)⟩
  have wh26:=h26.s;have woh26:=h26.o0;have wph26:=h26.o1
  refine rdQ_mk 1 _ ⟨rfl,by first | omega | (simp only [Array.size_setIfInBounds,setw_size];omega),frz0 _,⟨rfl,rdQ_mk 1 _ (rdQ_mk 1 _ ⟨gs (setw_get [uu x1.2.2.1,uu x1.2.2.2.1,uu x1.2.2.2.2.1,uu x1.2.2.2.2.2.1,uu x1.2.2.2.2.2.2] cs j 1 _ (by simpa using hsz) rfl) (by omega),limb_Add_m x1.2.2.2.1 v1 x23.2 (fun x24 h27=> ?_)⟩)⟩⟩
  have wh27:=h27.s;have woh27:=h27.o0;have wph27:=h27.o1
  refine rdQ_mk 1 _ ⟨rfl,by first | omega | (simp only [Array.size_setIfInBounds,setw_size];omega),frz0 _,⟨rfl,rdQ_mk 1 _ (rdQ_mk 1 _ ⟨gs (gs (setw_get [uu x1.2.2.1,uu x1.2.2.2.1,uu x1.2.2.2.2.1,uu x1.2.2.2.2.2.1,uu x1.2.2.2.2.2.2] cs j 2 _ (by simpa using hsz) rfl) (by omega)) (by omega),limb_Add_m x1.2.2.2.2.1 v2 x24.2 (fun x25 h28=> ?_)⟩)⟩⟩
  have wh28:=h28.s;have woh28:=h28.o0;have wph28:=h28.o1
  refine rdQ_mk 1 _ ⟨rfl,by first | omega | (simp only [Array.size_setIfInBounds,setw_size];omega),frz0 _,⟨rfl,rdQ_mk 1 _ (rdQ_mk 1 _ ⟨gs (gs (gs (setw_get [uu x1.2.2.1,uu x1.2.2.2.1,uu x1.2.2.2.2.1,uu x1.2.2.2.2.2.1,uu x1.2.2.2.2.2.2] cs j 3 _ (by simpa using hsz) rfl) (by omega)) (by omega)) (by omega),limb_Add_m x1.2.2.2.2.2.1 v3 x25.2 (fun x26 h29=> ?_)⟩)⟩⟩
  have wh29:=h29.s;have woh29:=h29.o0;have wph29:=h29.o1
  refine rdQ_mk 1 _ ⟨rfl,by first | omega | (simp only [Array.size_setIfInBounds,setw_size];omega),frz0 _,⟨rfl,rdQ_mk 1 _ ⟨gs (gs (gs (gs (setw_get [uu x1.2.2.1,uu x1.2.2.2.1,uu x1.2.2.2.2.1,uu x1.2.2.2.2.2.1,uu x1.2.2.2.2.2.2] cs j 4 _ (by simpa using hsz) rfl) (by omega)) (by omega)) (by omega)) (by omega),limb_Add_m x1.2.2.2.2.2.2 (0:Int) x26.2 (fun x27 h30=> ?_)⟩⟩⟩
  have wh30:=h30.s;have woh30:=h30.o0;have wph30:=h30.o1
  refine rdQ_mk 1 _ ⟨rfl,by first | omega | (simp only [Array.size_setIfInBounds,setw_size];omega),frz0 _,?_⟩
  have q:=loop_dec (k:=x27.2) (D' :=x23.1+18446744073709551616*x24.1+340282366920938463463374607431768211456*x25.1+6277101735386680763835789423207666416102355444464034512896*x26.1+115792089237316195423570985008687907853269984665640564039457584007913129639936*x27.1) L (by assumption) (by unfold W at *;omega) (by unfold W at *;omega) (by have:=addk4 (by assumption) (by assumption) (by assumption) (by assumption) (by assumption);omega) (by unfold W at *;omega) (by unfold W at *;omega) (by assumption) (by assumption) (by unfold W at *;omega) rfl
  exact ⟨(_,_,x23.1,x24.1,x25.1,x26.1,x27.1),⟨q.1,by assumption,by assumption,by assumption,by assumption,by assumption⟩,q.2,rfl,rfl,rfl,rfl,rfl,congrArg (fun z=>Slot.blk b (.cells z 346 (0,0))) (setw_setw [uu x23.1,uu x24.1,uu x25.1,uu x26.1,uu x27.1] [uu x1.2.2.1,uu x1.2.2.2.1,uu x1.2.2.2.2.1,uu x1.2.2.2.2.2.1,uu x1.2.2.2.2.2.2] cs j rfl),rfl,trivial⟩
abbrev wide_step4_K (b:Nat) (cs:Array Value) (j cap:Nat) (u0 u1 u2 u3 u4:Int) (c:Nat) (v0 v1 v2 v3:Int) (KK:(Int×Int×Int×Int×Int×Int)->Prop):Prop:=wide_step4_A b cs j cap u0 u1 u2 u3 u4 c v0 v1 v2 v3 (fun za zh zv zu zp=>callQ Try.prog 231 za zh (Int×Int×Int×Int×Int×Int) zv zu zp KK)
theorem wide_step4_m (b:Nat) (cs:Array Value) (j cap:Nat) (u0 u1 u2 u3 u4:Int) (c:Nat) (v0 v1 v2 v3:Int) {KK:(Int×Int×Int×Int×Int×Int)->Prop} (kont: ∀zx:Int×Int×Int×Int×Int×Int,(StepR (u0+18446744073709551616*u1+340282366920938463463374607431768211456*u2+6277101735386680763835789423207666416102355444464034512896*u3+115792089237316195423570985008687907853269984665640564039457584007913129639936*u4) (v0+18446744073709551616*v1+340282366920938463463374607431768211456*v2+6277101735386680763835789423207666416102355444464034512896*v3) zx.1 (zx.2.1+18446744073709551616*zx.2.2.1+340282366920938463463374607431768211456*zx.2.2.2.1+6277101735386680763835789423207666416102355444464034512896*zx.2.2.2.2.1+115792089237316195423570985008687907853269984665640564039457584007913129639936*zx.2.2.2.2.2)/\W zx.2.1/\W zx.2.2.1/\W zx.2.2.2.1/\W zx.2.2.2.2.1/\W zx.2.2.2.2.2)->KK zx) (wt: ∃zx:Int×Int×Int×Int×Int×Int,StepR (u0+18446744073709551616*u1+340282366920938463463374607431768211456*u2+6277101735386680763835789423207666416102355444464034512896*u3+115792089237316195423570985008687907853269984665640564039457584007913129639936*u4) (v0+18446744073709551616*v1+340282366920938463463374607431768211456*v2+6277101735386680763835789423207666416102355444464034512896*v3) zx.1 (zx.2.1+18446744073709551616*zx.2.2.1+340282366920938463463374607431768211456*zx.2.2.2.1+6277101735386680763835789423207666416102355444464034512896*zx.2.2.2.2.1+115792089237316195423570985008687907853269984665640564039457584007913129639936*zx.2.2.2.2.2)/\W zx.2.1/\W zx.2.2.1/\W zx.2.2.2.1/\W zx.2.2.2.2.1/\W zx.2.2.2.2.2) (hsz:j+5<=cs.size) (hu0:cs[j+0]? =some (uu u0)) (hu1:cs[j+1]? =some (uu u1)) (hu2:cs[j+2]? =some (uu u2)) (hu3:cs[j+3]? =some (uu u3)) (hu4:cs[j+4]? =some (uu u4)) (wu0:W u0) (wu1:W u1) (wu2:W u2) (wu3:W u3) (wu4:W u4) (wv0:W v0) (wv1:W v1) (wv2:W v2) (wv3:W v3) (hlt:u0+18446744073709551616*u1+340282366920938463463374607431768211456*u2+6277101735386680763835789423207666416102355444464034512896*u3+115792089237316195423570985008687907853269984665640564039457584007913129639936*u4<(v0+18446744073709551616*v1+340282366920938463463374607431768211456*v2+6277101735386680763835789423207666416102355444464034512896*v3)*18446744073709551616) (hv:0<v3):wide_step4_K b cs j cap u0 u1 u2 u3 u4 c v0 v1 v2 v3 KK:=callQ_mk (wide_step4 b cs j cap u0 u1 u2 u3 u4 c v0 v1 v2 v3 hsz hu0 hu1 hu2 hu3 hu4 wu0 wu1 wu2 wu3 wu4 wv0 wv1 wv2 wv3 hlt hv) (wt) fun zx hz=>by
  exact kont zx hz
def wide_Divide_C:List Value->List Slot->Ctr:=fun vs hs=>⟨Int×Int×Int,fun zx=> .tuple #[vW zx.1,vI zx.2.1, .int .i64 zx.2.2],fun _=>hs,fun zx=>R8 zx.1/\R4 zx.2.1/\zx=wDiv (num (varg vs 1)) (num (varg vs 2))⟩
abbrev wide_Divide_Q (n d:Int) (zv:Value) :Prop:= ∃zx:Int×Int×Int,(R8 zx.1/\R4 zx.2.1/\zx=wDiv (num (vW n)) (num (vI d)))/\zv= .tuple #[vW zx.1,vI zx.2.1, .int .i64 zx.2.2]/\True
abbrev wide_Divide_A (n d:Int) (zF:SF (Int×Int×Int)):Prop:=zF #[vW n,vI d] [] (fun zx=> .tuple #[vW zx.1,vI zx.2.1, .int .i64 zx.2.2]) (fun zx=> []) (fun zx=>(R8 zx.1/\R4 zx.2.1/\zx=wDiv (num (vW n)) (num (vI d))))
set_option maxRecDepth 100000 in
set_option maxHeartbeats 4000000 in
theorem wide_Divide_vc (n d:Int):wide_Divide_A n d (fun za zh zv zu zp=>codeW Try.prog 83 none 2000 none (bodyOf Try.f205) (.reg [.sem [.nw 0], .sem [.nw 1], .sem [.nw 2], .sem [.nw 3],S0] (.reg [S0] (.reg [S0,S0,S0,S0,S0,S0, .sem [.rd 1],S0,S0] (.cond (.reg [S0,S0,S0] (.reg [S0,S0,S0,S0,S0,S0, .sem [.rd 1],S0,S0] (.cond (.reg [S0,S0,S0] (.reg [S0,S0,S0,S0,S0,S0, .sem [.rd 1],S0,S0] (.cond (.reg [S0,S0,S0] (.reg [S0,S0,S0,S0,S0,S0, .sem [.rd 1],S0,S0] (.cond (.reg [S0,S0,S0] (.reg [S0,S0,S0, .no, .no, .no, .no, .no,S0] (.condF (.reg [S0,S0] (.condT (.reg [.sem (rds 8 2), .sem (rds 4 3), .sem (wrs 8 2), .sem (wrs 4 3),S0] (.done))))))) (.reg [S0,S0] (.condF (.reg [S0,S0,S0, .sem [.rd 1], .callr [] limb_Len_C, .gen [] (Sx.one (.int .i64 ((nrm (lim d 0):Nat):Int))),S0] (.reg [.sem [.nw 4]] (.reg [.sem [.nw 5]] (.reg [S0,S0,S0, .callw [4,0] [4,0] wide_up98_C] (.reg [S0,S0,S0,S0,S0, .callw [5,1] [5,1] wide_up1_C] (.reg [S0,S0,S0] (.reg [S0,S0] (.condT (.reg [S0,S0,S0,S0,S0,S0,S0,S0,S0, .callw [4,5] [4,5] wide_step1_C,S0, .sem [.wr 2]] (.reg [S0,S0,S0] (.reg [S0,S0] (.condT (.reg [S0,S0,S0,S0,S0,S0,S0,S0,S0, .callw [4,5] [4,5] wide_step1_C,S0, .sem [.wr 2]] (.reg [S0,S0,S0] (.reg [S0,S0] (.condT (.reg [S0,S0,S0,S0,S0,S0,S0,S0,S0, .callw [4,5] [4,5] wide_step1_C,S0, .sem [.wr 2]] (.reg [S0,S0,S0] (.reg [S0,S0] (.condT (.reg [S0,S0,S0,S0,S0,S0,S0,S0,S0, .callw [4,5] [4,5] wide_step1_C,S0, .sem [.wr 2]] (.reg [S0,S0,S0] (.reg [S0,S0] (.condT (.reg [S0,S0,S0,S0,S0,S0,S0,S0,S0, .callw [4,5] [4,5] wide_step1_C,S0, .sem [.wr 2]] (.reg [S0,S0,S0] (.reg [S0,S0] (.condT (.reg [S0,S0,S0,S0,S0,S0,S0,S0,S0, .callw [4,5] [4,5] wide_step1_C,S0, .sem [.wr 2]] (.reg [S0,S0,S0] (.reg [S0,S0] (.condT (.reg [S0,S0,S0,S0,S0,S0,S0,S0,S0, .callw [4,5] [4,5] wide_step1_C,S0, .sem [.wr 2]] (.reg [S0,S0,S0] (.reg [S0,S0] (.condT (.reg [S0,S0,S0,S0,S0,S0,S0,S0,S0, .callw [4,5] [4,5] wide_step1_C,S0, .sem [.wr 2]] (.reg [S0,S0,S0] (.reg [S0,S0] (.condF (.reg [S0,S0] (.reg [S0] (.condT (.reg [S0,S0] (.reg [S0,S0,S0, .sem [.rd 4],S0, .eq (f_shr),S0,S0,S0, .sem [.rd 4],S0, .gen [] (fun vs=>Sx.one (.int .i64 (ci (varg vs 0) - ci (varg vs 1))) vs), .eq (f_shl),S0,S0, .sem [.wr 3]] (.reg [S0,S0] (.reg [S0] (.condF (.reg [.sem (rds 8 2), .sem (rds 4 3), .sem (wrs 8 2), .sem (wrs 4 3),S0] (.done))))))))))))))))))))))))))))))))))))))))))))))))))))))) (.reg [S0,S0] (.condF (.reg [S0,S0,S0, .sem [.rd 1], .callr [] limb_Len_C, .gen [] (Sx.one (.int .i64 ((nrm (lim d 1):Nat):Int))),S0] (.reg [.sem [.nw 4]] (.reg [.sem [.nw 5]] (.reg [S0,S0,S0, .callw [4,0] [4,0] wide_up98_C] (.reg [S0,S0,S0,S0,S0, .callw [5,1] [5,1] wide_up2_C] (.reg [S0,S0,S0] (.reg [S0,S0] (.condT (.reg [S0,S0,S0,S0,S0,S0,S0,S0,S0, .callw [4,5] [4,5] wide_step2_C,S0, .sem [.wr 2]] (.reg [S0,S0,S0] (.reg [S0,S0] (.condT (.reg [S0,S0,S0,S0,S0,S0,S0,S0,S0, .callw [4,5] [4,5] wide_step2_C,S0, .sem [.wr 2]] (.reg [S0,S0,S0] (.reg [S0,S0] (.condT (.reg [S0,S0,S0,S0,S0,S0,S0,S0,S0, .callw [4,5] [4,5] wide_step2_C,S0, .sem [.wr 2]] (.reg [S0,S0,S0] (.reg [S0,S0] (.condT (.reg [S0,S0,S0,S0,S0,S0,S0,S0,S0, .callw [4,5] [4,5] wide_step2_C,S0, .sem [.wr 2]] (.reg [S0,S0,S0] (.reg [S0,S0] (.condT (.reg [S0,S0,S0,S0,S0,S0,S0,S0,S0, .callw [4,5] [4,5] wide_step2_C,S0, .sem [.wr 2]] (.reg [S0,S0,S0] (.reg [S0,S0] (.condT (.reg [S0,S0,S0,S0,S0,S0,S0,S0,S0, .callw [4,5] [4,5] wide_step2_C,S0, .sem [.wr 2]] (.reg [S0,S0,S0] (.reg [S0,S0] (.condT (.reg [S0,S0,S0,S0,S0,S0,S0,S0,S0, .callw [4,5] [4,5] wide_step2_C,S0, .sem [.wr 2]] (.reg [S0,S0,S0] (.reg [S0,S0] (.condF (.reg [S0,S0] (.reg [S0] (.condT (.reg [S0,S0] (.reg [S0,S0,S0, .sem [.rd 4],S0, .eq (f_shr),S0,S0,S0, .sem [.rd 4],S0, .gen [] (fun vs=>Sx.one (.int .i64 (ci (varg vs 0) - ci (varg vs 1))) vs), .eq (f_shl),S0,S0, .sem [.wr 3]] (.reg [S0,S0] (.reg [S0] (.condT (.reg [S0,S0] (.reg [S0,S0,S0, .sem [.rd 4],S0, .eq (f_shr),S0,S0,S0, .sem [.rd 4],S0, .gen [] (fun vs=>Sx.one (.int .i64 (ci (varg vs 0) - ci (varg vs 1))) vs), .eq (f_shl),S0,S0, .sem [.wr 3]] (.reg [S0,S0] (.reg [S0] (.condF (.reg [.sem (rds 8 2), .sem (rds 4 3), .sem (wrs 8 2), .sem (wrs 4 3),S0] (.done)))))))))))))))))))))))))))))))))))))))))))))))))))))))) (.reg [S0,S0] (.condF (.reg [S0,S0,S0, .sem [.rd 1], .callr [] limb_Len_C, .gen [] (Sx.one (.int .i64 ((nrm (lim d 2):Nat):Int))),S0] (.reg [.sem [.nw 4]] (.reg [.sem [.nw 5]] (.reg [S0,S0,S0, .callw [4,0] [4,0] wide_up98_C] (.reg [S0,S0,S0,S0,S0, .callw [5,1] [5,1] wide_up3_C] (.reg [S0,S0,S0] (.reg [S0,S0] (.condT (.reg [S0,S0,S0,S0,S0,S0,S0,S0,S0, .callw [4,5] [4,5] wide_step3_C,S0, .sem [.wr 2]] (.reg [S0,S0,S0] (.reg [S0,S0] (.condT (.reg [S0,S0,S0,S0,S0,S0,S0,S0,S0, .callw [4,5] [4,5] wide_step3_C,S0, .sem [.wr 2]] (.reg [S0,S0,S0] (.reg [S0,S0] (.condT (.reg [S0,S0,S0,S0,S0,S0,S0,S0,S0, .callw [4,5] [4,5] wide_step3_C,S0, .sem [.wr 2]] (.reg [S0,S0,S0] (.reg [S0,S0] (.condT (.reg [S0,S0,S0,S0,S0,S0,S0,S0,S0, .callw [4,5] [4,5] wide_step3_C,S0, .sem [.wr 2]] (.reg [S0,S0,S0] (.reg [S0,S0] (.condT (.reg [S0,S0,S0,S0,S0,S0,S0,S0,S0, .callw [4,5] [4,5] wide_step3_C,S0, .sem [.wr 2]] (.reg [S0,S0,S0] (.reg [S0,S0] (.condT (.reg [S0,S0,S0,S0,S0,S0,S0,S0,S0, .callw [4,5] [4,5] wide_step3_C,S0, .sem [.wr 2]] (.reg [S0,S0,S0] (.reg [S0,S0] (.condF (.reg [S0,S0] (.reg [S0] (.condT (.reg [S0,S0] (.reg [S0,S0,S0, .sem [.rd 4],S0, .eq (f_shr),S0,S0,S0, .sem [.rd 4],S0, .gen [] (fun vs=>Sx.one (.int .i64 (ci (varg vs 0) - ci (varg vs 1))) vs), .eq (f_shl),S0,S0, .sem [.wr 3]] (.reg [S0,S0] (.reg [S0] (.condT (.reg [S0,S0] (.reg [S0,S0,S0, .sem [.rd 4],S0, .eq (f_shr),S0,S0,S0, .sem [.rd 4],S0, .gen [] (fun vs=>Sx.one (.int .i64 (ci (varg vs 0) - ci (varg vs 1))) vs), .eq (f_shl),S0,S0, .sem [.wr 3]] (.reg [S0,S0] (.reg [S0] (.condT (.reg [S0,S0] (.reg [S0,S0,S0, .sem [.rd 4],S0, .eq (f_shr),S0,S0,S0, .sem [.rd 4],S0, .gen [] (fun vs=>Sx.one (.int .i64 (ci (varg vs 0) - ci (varg vs 1))) vs), .eq (f_shl),S0,S0, .sem [.wr 3]] (.reg [S0,S0] (.reg [S0] (.condF (.reg [.sem (rds 8 2), .sem (rds 4 3), .sem (wrs 8 2), .sem (wrs 4 3),S0] (.done))))))))))))))))))))))))))))))))))))))))))))))))))))))))) (.reg [S0,S0] (.condF (.reg [S0,S0,S0, .sem [.rd 1], .callr [] limb_Len_C, .gen [] (Sx.one (.int .i64 ((nrm (lim d 3):Nat):Int))),S0] (.reg [.sem [.nw 4]] (.reg [.sem [.nw 5]] (.reg [S0,S0,S0, .callw [4,0] [4,0] wide_up98_C] (.reg [S0,S0,S0,S0,S0, .callw [5,1] [5,1] wide_up4_C] (.reg [S0,S0,S0] (.reg [S0,S0] (.condT (.reg [S0,S0,S0,S0,S0,S0,S0,S0,S0, .callw [4,5] [4,5] wide_step4_C,S0, .sem [.wr 2]] (.reg [S0,S0,S0] (.reg [S0,S0] (.condT (.reg [S0,S0,S0,S0,S0,S0,S0,S0,S0, .callw [4,5] [4,5] wide_step4_C,S0, .sem [.wr 2]] (.reg [S0,S0,S0] (.reg [S0,S0] (.condT (.reg [S0,S0,S0,S0,S0,S0,S0,S0,S0, .callw [4,5] [4,5] wide_step4_C,S0, .sem [.wr 2]] (.reg [S0,S0,S0] (.reg [S0,S0] (.condT (.reg [S0,S0,S0,S0,S0,S0,S0,S0,S0, .callw [4,5] [4,5] wide_step4_C,S0, .sem [.wr 2]] (.reg [S0,S0,S0] (.reg [S0,S0] (.condT (.reg [S0,S0,S0,S0,S0,S0,S0,S0,S0, .callw [4,5] [4,5] wide_step4_C,S0, .sem [.wr 2]] (.reg [S0,S0,S0] (.reg [S0,S0] (.condF (.reg [S0,S0] (.reg [S0] (.condT (.reg [S0,S0] (.reg [S0,S0,S0, .sem [.rd 4],S0, .eq (f_shr),S0,S0,S0, .sem [.rd 4],S0, .gen [] (fun vs=>Sx.one (.int .i64 (ci (varg vs 0) - ci (varg vs 1))) vs), .eq (f_shl),S0,S0, .sem [.wr 3]] (.reg [S0,S0] (.reg [S0] (.condT (.reg [S0,S0] (.reg [S0,S0,S0, .sem [.rd 4],S0, .eq (f_shr),S0,S0,S0, .sem [.rd 4],S0, .gen [] (fun vs=>Sx.one (.int .i64 (ci (varg vs 0) - ci (varg vs 1))) vs), .eq (f_shl),S0,S0, .sem [.wr 3]] (.reg [S0,S0] (.reg [S0] (.condT (.reg [S0,S0] (.reg [S0,S0,S0, .sem [.rd 4],S0, .eq (f_shr),S0,S0,S0, .sem [.rd 4],S0, .gen [] (fun vs=>Sx.one (.int .i64 (ci (varg vs 0) - ci (varg vs 1))) vs), .eq (f_shl),S0,S0, .sem [.wr 3]] (.reg [S0,S0] (.reg [S0] (.condT (.reg [S0,S0] (.reg [S0,S0,S0, .sem [.rd 4],S0, .eq (f_shr),S0,S0,S0, .sem [.rd 4],S0, .gen [] (fun vs=>Sx.one (.int .i64 (ci (varg vs 0) - ci (varg vs 1))) vs), .eq (f_shl),S0,S0, .sem [.wr 3]] (.reg [S0,S0] (.reg [S0] (.condF (.reg [.sem (rds 8 2), .sem (rds 4 3), .sem (wrs 8 2), .sem (wrs 4 3),S0] (.done)))))))))))))))))))))))))))))))))))))))))))))))))))))))))))
    (init za zh) (finW Try.prog Try.f205 [.rd 2, .rd 2, .rd 2, .rd 2, .rd 2, .rd 2, .rd 2, .rd 2, .rd 3, .rd 3, .rd 3, .rd 3] [] (X:=Int×Int×Int) zv zu zp))=
    (∀b1:Nat,∀b2:Nat,∀b3:Nat,∀b4:Nat,true=true/\true=true/\true=true/\true=true/\rdQ 1 b2 (true=true/\(((lim d 3)==(0:Int))=true->true=true/\true=true/\true=true/\true=true/\rdQ 1 b2 (true=true/\(((lim d 2)==(0:Int))=true->true=true/\true=true/\true=true/\true=true/\rdQ 1 b2 (true=true/\(((lim d 1)==(0:Int))=true->true=true/\true=true/\true=true/\true=true/\rdQ 1 b2 (true=true/\(((lim d 0)==(0:Int))=true->false= !true/\false= !true/\false= !true/\false= !true/\false= !true/\(false=false)/\(true=true)/\rdQ 8 b3 (rdQ 4 b4 (rdQ 8 b3 (rdQ 4 b4 (rdQ 8 b3 (rdQ 4 b4 (wide_Divide_Q n d (Value.tuple #[.agg #[uu 0,uu 0,uu 0,uu 0,uu 0,uu 0,uu 0,uu 0], .agg #[uu 0,uu 0,uu 0,uu 0], .int .i64 3]))))))))/\(((lim d 0)==(0:Int))=false->(false=false)/\rdQ 1 b2 (limb_Len_K (lim d 0) (fun _=>(∃_:Unit,True/\Value.int .i64 (IntKind.i64.wrap (64 - ((blen (lim d 0).toNat:Nat):Int)))= .int .i64 ((nrm (lim d 0):Nat):Int))/\ ∀_:Unit,(True)-> ∀b5:Nat,∀b6:Nat,wide_up98_K b5 b1 (lim n 0) (lim n 1) (lim n 2) (lim n 3) (lim n 4) (lim n 5) (lim n 6) (lim n 7) ((nrm (lim d 0):Nat):Int) (fun x7=>wide_up1_K b6 b2 (lim d 0) (lim d 1) (lim d 2) (lim d 3) ((nrm (lim d 0):Nat):Int) (fun x8=>(true=true)/\wide_step1_K b5 (#[uu x7.1,uu x7.2.1,uu x7.2.2.1,uu x7.2.2.2.1,uu x7.2.2.2.2.1,uu x7.2.2.2.2.2.1,uu x7.2.2.2.2.2.2.1,uu x7.2.2.2.2.2.2.2.1,uu x7.2.2.2.2.2.2.2.2]) 7 2 x7.2.2.2.2.2.2.2.1 x7.2.2.2.2.2.2.2.2 b6 x8 (fun x9=>rdQ 1 b3 ((true=true)/\wide_step1_K b5 (#[uu x7.1,uu x7.2.1,uu x7.2.2.1,uu x7.2.2.2.1,uu x7.2.2.2.2.1,uu x7.2.2.2.2.2.1,uu x7.2.2.2.2.2.2.1,uu x9.2.1,uu x9.2.2]) 6 3 x7.2.2.2.2.2.2.1 x9.2.1 b6 x8 (fun x10=>rdQ 1 b3 ((true=true)/\wide_step1_K b5 (#[uu x7.1,uu x7.2.1,uu x7.2.2.1,uu x7.2.2.2.1,uu x7.2.2.2.2.1,uu x7.2.2.2.2.2.1,uu x10.2.1,uu x10.2.2,uu x9.2.2]) 5 4 x7.2.2.2.2.2.1 x10.2.1 b6 x8 (fun x11=>rdQ 1 b3 ((true=true)/\wide_step1_K b5 (#[uu x7.1,uu x7.2.1,uu x7.2.2.1,uu x7.2.2.2.1,uu x7.2.2.2.2.1,uu x11.2.1,uu x11.2.2,uu x10.2.2,uu x9.2.2]) 4 5 x7.2.2.2.2.1 x11.2.1 b6 x8 (fun x12=>rdQ 1 b3 ((true=true)/\wide_step1_K b5 (#[uu x7.1,uu x7.2.1,uu x7.2.2.1,uu x7.2.2.2.1,uu x12.2.1,uu x12.2.2,uu x11.2.2,uu x10.2.2,uu x9.2.2]) 3 6 x7.2.2.2.1 x12.2.1 b6 x8 (fun x13=>rdQ 1 b3 ((true=true)/\wide_step1_K b5 (#[uu x7.1,uu x7.2.1,uu x7.2.2.1,uu x13.2.1,uu x13.2.2,uu x12.2.2,uu x11.2.2,uu x10.2.2,uu x9.2.2]) 2 7 x7.2.2.1 x13.2.1 b6 x8 (fun x14=>rdQ 1 b3 ((true=true)/\wide_step1_K b5 (#[uu x7.1,uu x7.2.1,uu x14.2.1,uu x14.2.2,uu x13.2.2,uu x12.2.2,uu x11.2.2,uu x10.2.2,uu x9.2.2]) 1 8 x7.2.1 x14.2.1 b6 x8 (fun x15=>rdQ 1 b3 ((true=true)/\wide_step1_K b5 (#[uu x7.1,uu x15.2.1,uu x15.2.2,uu x14.2.2,uu x13.2.2,uu x12.2.2,uu x11.2.2,uu x10.2.2,uu x9.2.2]) 0 9 x7.1 x15.2.1 b6 x8 (fun x16=>rdQ 1 b3 ((false=false)/\(true=true)/\rdQ 1 b5 ((PureRun Try.prog (xBin .shr 23 (uu x16.2.1) (.int .i64 ((nrm (lim d 0):Nat):Int))) (uu (Int.fdiv x16.2.1 (2^(min (Int.toNat ((nrm (lim d 0):Nat):Int)) 64)))))/\rdQ 1 b5 ((∃_:Unit,True/\Value.int .i64 (IntKind.i64.wrap (64 - ((nrm (lim d 0):Nat):Int)))= .int .i64 (64 - ((nrm (lim d 0):Nat):Int)))/\ ∀_:Unit,(True)->(PureRun Try.prog (xBin .shl 23 (uu x16.2.2) (.int .i64 (64 - ((nrm (lim d 0):Nat):Int)))) (uu (IntKind.u64.wrap (x16.2.2*2^(min (Int.toNat (64 - ((nrm (lim d 0):Nat):Int))) 64)))))/\rdQ 1 b4 ((false=false)/\rdQ 8 b3 (rdQ 4 b4 (rdQ 8 b3 (rdQ 4 b4 (rdQ 8 b3 (rdQ 4 b4 (wide_Divide_Q n d (Value.tuple #[.agg #[uu x16.1,uu x15.1,uu x14.1,uu x13.1,uu x12.1,uu x11.1,uu x10.1,uu x9.1], .agg #[uu (IntKind.u64.wrap ((BitVec.ofInt 64 (Int.fdiv x16.2.1 (2^(min (Int.toNat ((nrm (lim d 0):Nat):Int)) 64))) ||| BitVec.ofInt 64 (IntKind.u64.wrap (x16.2.2*2^(min (Int.toNat (64 - ((nrm (lim d 0):Nat):Int))) 64))):BitVec 64).toNat:Int)),uu 0,uu 0,uu 0], .int .i64 0])))))))))))))))))))))))))))))))))/\(((lim d 1)==(0:Int))=false->(false=false)/\rdQ 1 b2 (limb_Len_K (lim d 1) (fun _=>(∃_:Unit,True/\Value.int .i64 (IntKind.i64.wrap (64 - ((blen (lim d 1).toNat:Nat):Int)))= .int .i64 ((nrm (lim d 1):Nat):Int))/\ ∀_:Unit,(True)-> ∀b17:Nat,∀b18:Nat,wide_up98_K b17 b1 (lim n 0) (lim n 1) (lim n 2) (lim n 3) (lim n 4) (lim n 5) (lim n 6) (lim n 7) ((nrm (lim d 1):Nat):Int) (fun x19=>wide_up2_K b18 b2 (lim d 0) (lim d 1) (lim d 2) (lim d 3) ((nrm (lim d 1):Nat):Int) (fun x20=>(true=true)/\wide_step2_K b17 (#[uu x19.1,uu x19.2.1,uu x19.2.2.1,uu x19.2.2.2.1,uu x19.2.2.2.2.1,uu x19.2.2.2.2.2.1,uu x19.2.2.2.2.2.2.1,uu x19.2.2.2.2.2.2.2.1,uu x19.2.2.2.2.2.2.2.2]) 6 3 x19.2.2.2.2.2.2.1 x19.2.2.2.2.2.2.2.1 x19.2.2.2.2.2.2.2.2 b18 x20.1 x20.2 (fun x21=>rdQ 1 b3 ((true=true)/\wide_step2_K b17 (#[uu x19.1,uu x19.2.1,uu x19.2.2.1,uu x19.2.2.2.1,uu x19.2.2.2.2.1,uu x19.2.2.2.2.2.1,uu x21.2.1,uu x21.2.2.1,uu x21.2.2.2]) 5 4 x19.2.2.2.2.2.1 x21.2.1 x21.2.2.1 b18 x20.1 x20.2 (fun x22=>rdQ 1 b3 ((true=true)/\wide_step2_K b17 (#[uu x19.1,uu x19.2.1,uu x19.2.2.1,uu x19.2.2.2.1,uu x19.2.2.2.2.1,uu x22.2.1,uu x22.2.2.1,uu x22.2.2.2,uu x21.2.2.2]) 4 5 x19.2.2.2.2.1 x22.2.1 x22.2.2.1 b18 x20.1 x20.2 (fun x23=>rdQ 1 b3 ((true=true)/\wide_step2_K b17 (#[uu x19.1,uu x19.2.1,uu x19.2.2.1,uu x19.2.2.2.1,uu x23.2.1,uu x23.2.2.1,uu x23.2.2.2,uu x22.2.2.2,uu x21.2.2.2]) 3 6 x19.2.2.2.1 x23.2.1 x23.2.2.1 b18 x20.1 x20.2 (fun x24=>rdQ 1 b3 ((true=true)/\wide_step2_K b17 (#[uu x19.1,uu x19.2.1,uu x19.2.2.1,uu x24.2.1,uu x24.2.2.1,uu x24.2.2.2,uu x23.2.2.2,uu x22.2.2.2,uu x21.2.2.2]) 2 7 x19.2.2.1 x24.2.1 x24.2.2.1 b18 x20.1 x20.2 (fun x25=>rdQ 1 b3 ((true=true)/\wide_step2_K b17 (#[uu x19.1,uu x19.2.1,uu x25.2.1,uu x25.2.2.1,uu x25.2.2.2,uu x24.2.2.2,uu x23.2.2.2,uu x22.2.2.2,uu x21.2.2.2]) 1 8 x19.2.1 x25.2.1 x25.2.2.1 b18 x20.1 x20.2 (fun x26=>rdQ 1 b3 ((true=true)/\wide_step2_K b17 (#[uu x19.1,uu x26.2.1,uu x26.2.2.1,uu x26.2.2.2,uu x25.2.2.2,uu x24.2.2.2,uu x23.2.2.2,uu x22.2.2.2,uu x21.2.2.2]) 0 9 x19.1 x26.2.1 x26.2.2.1 b18 x20.1 x20.2 (fun x27=>rdQ 1 b3 ((false=false)/\(true=true)/\rdQ 1 b17 ((PureRun Try.prog (xBin .shr 23 (uu x27.2.1) (.int .i64 ((nrm (lim d 1):Nat):Int))) (uu (Int.fdiv x27.2.1 (2^(min (Int.toNat ((nrm (lim d 1):Nat):Int)) 64)))))/\rdQ 1 b17 ((∃_:Unit,True/\Value.int .i64 (IntKind.i64.wrap (64 - ((nrm (lim d 1):Nat):Int)))= .int .i64 (64 - ((nrm (lim d 1):Nat):Int)))/\ ∀_:Unit,(True)->(PureRun Try.prog (xBin .shl 23 (uu x27.2.2.1) (.int .i64 (64 - ((nrm (lim d 1):Nat):Int)))) (uu (IntKind.u64.wrap (x27.2.2.1*2^(min (Int.toNat (64 - ((nrm (lim d 1):Nat):Int))) 64)))))/\rdQ 1 b4 ((true=true)/\rdQ 1 b17 ((PureRun Try.prog (xBin .shr 23 (uu x27.2.2.1) (.int .i64 ((nrm (lim d 1):Nat):Int))) (uu (Int.fdiv x27.2.2.1 (2^(min (Int.toNat ((nrm (lim d 1):Nat):Int)) 64)))))/\rdQ 1 b17 ((∃_:Unit,True/\Value.int .i64 (IntKind.i64.wrap (64 - ((nrm (lim d 1):Nat):Int)))= .int .i64 (64 - ((nrm (lim d 1):Nat):Int)))/\ ∀_:Unit,(True)->(PureRun Try.prog (xBin .shl 23 (uu x27.2.2.2) (.int .i64 (64 - ((nrm (lim d 1):Nat):Int)))) (uu (IntKind.u64.wrap (x27.2.2.2*2^(min (Int.toNat (64 - ((nrm (lim d 1):Nat):Int))) 64)))))/\rdQ 1 b4 ((false=false)/\rdQ 8 b3 (rdQ 4 b4 (rdQ 8 b3 (rdQ 4 b4 (rdQ 8 b3 (rdQ 4 b4 (wide_Divide_Q n d (Value.tuple #[.agg #[uu x27.1,uu x26.1,uu x25.1,uu x24.1,uu x23.1,uu x22.1,uu x21.1,uu 0], .agg #[uu (IntKind.u64.wrap ((BitVec.ofInt 64 (Int.fdiv x27.2.1 (2^(min (Int.toNat ((nrm (lim d 1):Nat):Int)) 64))) ||| BitVec.ofInt 64 (IntKind.u64.wrap (x27.2.2.1*2^(min (Int.toNat (64 - ((nrm (lim d 1):Nat):Int))) 64))):BitVec 64).toNat:Int)),uu (IntKind.u64.wrap ((BitVec.ofInt 64 (Int.fdiv x27.2.2.1 (2^(min (Int.toNat ((nrm (lim d 1):Nat):Int)) 64))) ||| BitVec.ofInt 64 (IntKind.u64.wrap (x27.2.2.2*2^(min (Int.toNat (64 - ((nrm (lim d 1):Nat):Int))) 64))):BitVec 64).toNat:Int)),uu 0,uu 0], .int .i64 0]))))))))))))))))))))))))))))))))))/\(((lim d 2)==(0:Int))=false->(false=false)/\rdQ 1 b2 (limb_Len_K (lim d 2) (fun _=>(∃_:Unit,True/\Value.int .i64 (IntKind.i64.wrap (64 - ((blen (lim d 2).toNat:Nat):Int)))= .int .i64 ((nrm (lim d 2):Nat):Int))/\ ∀_:Unit,(True)-> ∀b28:Nat,∀b29:Nat,wide_up98_K b28 b1 (lim n 0) (lim n 1) (lim n 2) (lim n 3) (lim n 4) (lim n 5) (lim n 6) (lim n 7) ((nrm (lim d 2):Nat):Int) (fun x30=>wide_up3_K b29 b2 (lim d 0) (lim d 1) (lim d 2) (lim d 3) ((nrm (lim d 2):Nat):Int) (fun x31=>(true=true)/\wide_step3_K b28 (#[uu x30.1,uu x30.2.1,uu x30.2.2.1,uu x30.2.2.2.1,uu x30.2.2.2.2.1,uu x30.2.2.2.2.2.1,uu x30.2.2.2.2.2.2.1,uu x30.2.2.2.2.2.2.2.1,uu x30.2.2.2.2.2.2.2.2]) 5 4 x30.2.2.2.2.2.1 x30.2.2.2.2.2.2.1 x30.2.2.2.2.2.2.2.1 x30.2.2.2.2.2.2.2.2 b29 x31.1 x31.2.1 x31.2.2 (fun x32=>rdQ 1 b3 ((true=true)/\wide_step3_K b28 (#[uu x30.1,uu x30.2.1,uu x30.2.2.1,uu x30.2.2.2.1,uu x30.2.2.2.2.1,uu x32.2.1,uu x32.2.2.1,uu x32.2.2.2.1,uu x32.2.2.2.2]) 4 5 x30.2.2.2.2.1 x32.2.1 x32.2.2.1 x32.2.2.2.1 b29 x31.1 x31.2.1 x31.2.2 (fun x33=>rdQ 1 b3 ((true=true)/\wide_step3_K b28 (#[uu x30.1,uu x30.2.1,uu x30.2.2.1,uu x30.2.2.2.1,uu x33.2.1,uu x33.2.2.1,uu x33.2.2.2.1,uu x33.2.2.2.2,uu x32.2.2.2.2]) 3 6 x30.2.2.2.1 x33.2.1 x33.2.2.1 x33.2.2.2.1 b29 x31.1 x31.2.1 x31.2.2 (fun x34=>rdQ 1 b3 ((true=true)/\wide_step3_K b28 (#[uu x30.1,uu x30.2.1,uu x30.2.2.1,uu x34.2.1,uu x34.2.2.1,uu x34.2.2.2.1,uu x34.2.2.2.2,uu x33.2.2.2.2,uu x32.2.2.2.2]) 2 7 x30.2.2.1 x34.2.1 x34.2.2.1 x34.2.2.2.1 b29 x31.1 x31.2.1 x31.2.2 (fun x35=>rdQ 1 b3 ((true=true)/\wide_step3_K b28 (#[uu x30.1,uu x30.2.1,uu x35.2.1,uu x35.2.2.1,uu x35.2.2.2.1,uu x35.2.2.2.2,uu x34.2.2.2.2,uu x33.2.2.2.2,uu x32.2.2.2.2]) 1 8 x30.2.1 x35.2.1 x35.2.2.1 x35.2.2.2.1 b29 x31.1 x31.2.1 x31.2.2 (fun x36=>rdQ 1 b3 ((true=true)/\wide_step3_K b28 (#[uu x30.1,uu x36.2.1,uu x36.2.2.1,uu x36.2.2.2.1,uu x36.2.2.2.2,uu x35.2.2.2.2,uu x34.2.2.2.2,uu x33.2.2.2.2,uu x32.2.2.2.2]) 0 9 x30.1 x36.2.1 x36.2.2.1 x36.2.2.2.1 b29 x31.1 x31.2.1 x31.2.2 (fun x37=>rdQ 1 b3 ((false=false)/\(true=true)/\rdQ 1 b28 ((PureRun Try.prog (xBin .shr 23 (uu x37.2.1) (.int .i64 ((nrm (lim d 2):Nat):Int))) (uu (Int.fdiv x37.2.1 (2^(min (Int.toNat ((nrm (lim d 2):Nat):Int)) 64)))))/\rdQ 1 b28 ((∃_:Unit,True/\Value.int .i64 (IntKind.i64.wrap (64 - ((nrm (lim d 2):Nat):Int)))= .int .i64 (64 - ((nrm (lim d 2):Nat):Int)))/\ ∀_:Unit,(True)->(PureRun Try.prog (xBin .shl 23 (uu x37.2.2.1) (.int .i64 (64 - ((nrm (lim d 2):Nat):Int)))) (uu (IntKind.u64.wrap (x37.2.2.1*2^(min (Int.toNat (64 - ((nrm (lim d 2):Nat):Int))) 64)))))/\rdQ 1 b4 ((true=true)/\rdQ 1 b28 ((PureRun Try.prog (xBin .shr 23 (uu x37.2.2.1) (.int .i64 ((nrm (lim d 2):Nat):Int))) (uu (Int.fdiv x37.2.2.1 (2^(min (Int.toNat ((nrm (lim d 2):Nat):Int)) 64)))))/\rdQ 1 b28 ((∃_:Unit,True/\Value.int .i64 (IntKind.i64.wrap (64 - ((nrm (lim d 2):Nat):Int)))= .int .i64 (64 - ((nrm (lim d 2):Nat):Int)))/\ ∀_:Unit,(True)->(PureRun Try.prog (xBin .shl 23 (uu x37.2.2.2.1) (.int .i64 (64 - ((nrm (lim d 2):Nat):Int)))) (uu (IntKind.u64.wrap (x37.2.2.2.1*2^(min (Int.toNat (64 - ((nrm (lim d 2):Nat):Int))) 64)))))/\rdQ 1 b4 ((true=true)/\rdQ 1 b28 ((PureRun Try.prog (xBin .shr 23 (uu x37.2.2.2.1) (.int .i64 ((nrm (lim d 2):Nat):Int))) (uu (Int.fdiv x37.2.2.2.1 (2^(min (Int.toNat ((nrm (lim d 2):Nat):Int)) 64)))))/\rdQ 1 b28 ((∃_:Unit,True/\Value.int .i64 (IntKind.i64.wrap (64 - ((nrm (lim d 2):Nat):Int)))= .int .i64 (64 - ((nrm (lim d 2):Nat):Int)))/\ ∀_:Unit,(True)->(PureRun Try.prog (xBin .shl 23 (uu x37.2.2.2.2) (.int .i64 (64 - ((nrm (lim d 2):Nat):Int)))) (uu (IntKind.u64.wrap (x37.2.2.2.2*2^(min (Int.toNat (64 - ((nrm (lim d 2):Nat):Int))) 64)))))/\rdQ 1 b4 ((false=false)/\rdQ 8 b3 (rdQ 4 b4 (rdQ 8 b3 (rdQ 4 b4 (rdQ 8 b3 (rdQ 4 b4 (wide_Divide_Q n d (Value.tuple #[.agg #[uu x37.1,uu x36.1,uu x35.1,uu x34.1,uu x33.1,uu x32.1,uu 0,uu 0], .agg #[uu (IntKind.u64.wrap ((BitVec.ofInt 64 (Int.fdiv x37.2.1 (2^(min (Int.toNat ((nrm (lim d 2):Nat):Int)) 64))) ||| BitVec.ofInt 64 (IntKind.u64.wrap (x37.2.2.1*2^(min (Int.toNat (64 - ((nrm (lim d 2):Nat):Int))) 64))):BitVec 64).toNat:Int)),uu (IntKind.u64.wrap ((BitVec.ofInt 64 (Int.fdiv x37.2.2.1 (2^(min (Int.toNat ((nrm (lim d 2):Nat):Int)) 64))) ||| BitVec.ofInt 64 (IntKind.u64.wrap (x37.2.2.2.1*2^(min (Int.toNat (64 - ((nrm (lim d 2):Nat):Int))) 64))):BitVec 64).toNat:Int)),uu (IntKind.u64.wrap ((BitVec.ofInt 64 (Int.fdiv x37.2.2.2.1 (2^(min (Int.toNat ((nrm (lim d 2):Nat):Int)) 64))) ||| BitVec.ofInt 64 (IntKind.u64.wrap (x37.2.2.2.2*2^(min (Int.toNat (64 - ((nrm (lim d 2):Nat):Int))) 64))):BitVec 64).toNat:Int)),uu 0], .int .i64 0])))))))))))))))))))))))))))))))))))/\(((lim d 3)==(0:Int))=false->(false=false)/\rdQ 1 b2 (limb_Len_K (lim d 3) (fun _=>(∃_:Unit,True/\Value.int .i64 (IntKind.i64.wrap (64 - ((blen (lim d 3).toNat:Nat):Int)))= .int .i64 ((nrm (lim d 3):Nat):Int))/\ ∀_:Unit,(True)-> ∀b38:Nat,∀b39:Nat,wide_up98_K b38 b1 (lim n 0) (lim n 1) (lim n 2) (lim n 3) (lim n 4) (lim n 5) (lim n 6) (lim n 7) ((nrm (lim d 3):Nat):Int) (fun x40=>wide_up4_K b39 b2 (lim d 0) (lim d 1) (lim d 2) (lim d 3) ((nrm (lim d 3):Nat):Int) (fun x41=>(true=true)/\wide_step4_K b38 (#[uu x40.1,uu x40.2.1,uu x40.2.2.1,uu x40.2.2.2.1,uu x40.2.2.2.2.1,uu x40.2.2.2.2.2.1,uu x40.2.2.2.2.2.2.1,uu x40.2.2.2.2.2.2.2.1,uu x40.2.2.2.2.2.2.2.2]) 4 5 x40.2.2.2.2.1 x40.2.2.2.2.2.1 x40.2.2.2.2.2.2.1 x40.2.2.2.2.2.2.2.1 x40.2.2.2.2.2.2.2.2 b39 x41.1 x41.2.1 x41.2.2.1 x41.2.2.2 (fun x42=>rdQ 1 b3 ((true=true)/\wide_step4_K b38 (#[uu x40.1,uu x40.2.1,uu x40.2.2.1,uu x40.2.2.2.1,uu x42.2.1,uu x42.2.2.1,uu x42.2.2.2.1,uu x42.2.2.2.2.1,uu x42.2.2.2.2.2]) 3 6 x40.2.2.2.1 x42.2.1 x42.2.2.1 x42.2.2.2.1 x42.2.2.2.2.1 b39 x41.1 x41.2.1 x41.2.2.1 x41.2.2.2 (fun x43=>rdQ 1 b3 ((true=true)/\wide_step4_K b38 (#[uu x40.1,uu x40.2.1,uu x40.2.2.1,uu x43.2.1,uu x43.2.2.1,uu x43.2.2.2.1,uu x43.2.2.2.2.1,uu x43.2.2.2.2.2,uu x42.2.2.2.2.2]) 2 7 x40.2.2.1 x43.2.1 x43.2.2.1 x43.2.2.2.1 x43.2.2.2.2.1 b39 x41.1 x41.2.1 x41.2.2.1 x41.2.2.2 (fun x44=>rdQ 1 b3 ((true=true)/\wide_step4_K b38 (#[uu x40.1,uu x40.2.1,uu x44.2.1,uu x44.2.2.1,uu x44.2.2.2.1,uu x44.2.2.2.2.1,uu x44.2.2.2.2.2,uu x43.2.2.2.2.2,uu x42.2.2.2.2.2]) 1 8 x40.2.1 x44.2.1 x44.2.2.1 x44.2.2.2.1 x44.2.2.2.2.1 b39 x41.1 x41.2.1 x41.2.2.1 x41.2.2.2 (fun x45=>rdQ 1 b3 ((true=true)/\wide_step4_K b38 (#[uu x40.1,uu x45.2.1,uu x45.2.2.1,uu x45.2.2.2.1,uu x45.2.2.2.2.1,uu x45.2.2.2.2.2,uu x44.2.2.2.2.2,uu x43.2.2.2.2.2,uu x42.2.2.2.2.2]) 0 9 x40.1 x45.2.1 x45.2.2.1 x45.2.2.2.1 x45.2.2.2.2.1 b39 x41.1 x41.2.1 x41.2.2.1 x41.2.2.2 (fun x46=>rdQ 1 b3 ((false=false)/\(true=true)/\rdQ 1 b38 ((PureRun Try.prog (xBin .shr 23 (uu x46.2.1) (.int .i64 ((nrm (lim d 3):Nat):Int))) (uu (Int.fdiv x46.2.1 (2^(min (Int.toNat ((nrm (lim d 3):Nat):Int)) 64)))))/\rdQ 1 b38 ((∃_:Unit,True/\Value.int .i64 (IntKind.i64.wrap (64 - ((nrm (lim d 3):Nat):Int)))= .int .i64 (64 - ((nrm (lim d 3):Nat):Int)))/\ ∀_:Unit,(True)->(PureRun Try.prog (xBin .shl 23 (uu x46.2.2.1) (.int .i64 (64 - ((nrm (lim d 3):Nat):Int)))) (uu (IntKind.u64.wrap (x46.2.2.1*2^(min (Int.toNat (64 - ((nrm (lim d 3):Nat):Int))) 64)))))/\rdQ 1 b4 ((true=true)/\rdQ 1 b38 ((PureRun Try.prog (xBin .shr 23 (uu x46.2.2.1) (.int .i64 ((nrm (lim d 3):Nat):Int))) (uu (Int.fdiv x46.2.2.1 (2^(min (Int.toNat ((nrm (lim d 3):Nat):Int)) 64)))))/\rdQ 1 b38 ((∃_:Unit,True/\Value.int .i64 (IntKind.i64.wrap (64 - ((nrm (lim d 3):Nat):Int)))= .int .i64 (64 - ((nrm (lim d 3):Nat):Int)))/\ ∀_:Unit,(True)->(PureRun Try.prog (xBin .shl 23 (uu x46.2.2.2.1) (.int .i64 (64 - ((nrm (lim d 3):Nat):Int)))) (uu (IntKind.u64.wrap (x46.2.2.2.1*2^(min (Int.toNat (64 - ((nrm (lim d 3):Nat):Int))) 64)))))/\rdQ 1 b4 ((true=true)/\rdQ 1 b38 ((PureRun Try.prog (xBin .shr 23 (uu x46.2.2.2.1) (.int .i64 ((nrm (lim d 3):Nat):Int))) (uu (Int.fdiv x46.2.2.2.1 (2^(min (Int.toNat ((nrm (lim d 3):Nat):Int)) 64)))))/\rdQ 1 b38 ((∃_:Unit,True/\Value.int .i64 (IntKind.i64.wrap (64 - ((nrm (lim d 3):Nat):Int)))= .int .i64 (64 - ((nrm (lim d 3):Nat):Int)))/\ ∀_:Unit,(True)->(PureRun Try.prog (xBin .shl 23 (uu x46.2.2.2.2.1) (.int .i64 (64 - ((nrm (lim d 3):Nat):Int)))) (uu (IntKind.u64.wrap (x46.2.2.2.2.1*2^(min (Int.toNat (64 - ((nrm (lim d 3):Nat):Int))) 64)))))/\rdQ 1 b4 ((true=true)/\rdQ 1 b38 ((PureRun Try.prog (xBin .shr 23 (uu x46.2.2.2.2.1) (.int .i64 ((nrm (lim d 3):Nat):Int))) (uu (Int.fdiv x46.2.2.2.2.1 (2^(min (Int.toNat ((nrm (lim d 3):Nat):Int)) 64)))))/\rdQ 1 b38 ((∃_:Unit,True/\Value.int .i64 (IntKind.i64.wrap (64 - ((nrm (lim d 3):Nat):Int)))= .int .i64 (64 - ((nrm (lim d 3):Nat):Int)))/\ ∀_:Unit,(True)->(PureRun Try.prog (xBin .shl 23 (uu x46.2.2.2.2.2) (.int .i64 (64 - ((nrm (lim d 3):Nat):Int)))) (uu (IntKind.u64.wrap (x46.2.2.2.2.2*2^(min (Int.toNat (64 - ((nrm (lim d 3):Nat):Int))) 64)))))/\rdQ 1 b4 ((false=false)/\rdQ 8 b3 (rdQ 4 b4 (rdQ 8 b3 (rdQ 4 b4 (rdQ 8 b3 (rdQ 4 b4 (wide_Divide_Q n d (Value.tuple #[.agg #[uu x46.1,uu x45.1,uu x44.1,uu x43.1,uu x42.1,uu 0,uu 0,uu 0], .agg #[uu (IntKind.u64.wrap ((BitVec.ofInt 64 (Int.fdiv x46.2.1 (2^(min (Int.toNat ((nrm (lim d 3):Nat):Int)) 64))) ||| BitVec.ofInt 64 (IntKind.u64.wrap (x46.2.2.1*2^(min (Int.toNat (64 - ((nrm (lim d 3):Nat):Int))) 64))):BitVec 64).toNat:Int)),uu (IntKind.u64.wrap ((BitVec.ofInt 64 (Int.fdiv x46.2.2.1 (2^(min (Int.toNat ((nrm (lim d 3):Nat):Int)) 64))) ||| BitVec.ofInt 64 (IntKind.u64.wrap (x46.2.2.2.1*2^(min (Int.toNat (64 - ((nrm (lim d 3):Nat):Int))) 64))):BitVec 64).toNat:Int)),uu (IntKind.u64.wrap ((BitVec.ofInt 64 (Int.fdiv x46.2.2.2.1 (2^(min (Int.toNat ((nrm (lim d 3):Nat):Int)) 64))) ||| BitVec.ofInt 64 (IntKind.u64.wrap (x46.2.2.2.2.1*2^(min (Int.toNat (64 - ((nrm (lim d 3):Nat):Int))) 64))):BitVec 64).toNat:Int)),uu (IntKind.u64.wrap ((BitVec.ofInt 64 (Int.fdiv x46.2.2.2.2.1 (2^(min (Int.toNat ((nrm (lim d 3):Nat):Int)) 64))) ||| BitVec.ofInt 64 (IntKind.u64.wrap (x46.2.2.2.2.2*2^(min (Int.toNat (64 - ((nrm (lim d 3):Nat):Int))) 64))):BitVec 64).toNat:Int))], .int .i64 0])))))))))))))))))))))))))))))))))))):=by kernel_rfl
set_option maxRecDepth 100000 in
set_option maxHeartbeats 4000000 in
theorem wide_Divide (n d : Int) (r_n : R8 n) (r_d : R4 d) : wide_Divide_A n d (fun za zh zv zu zp => CallT Try.prog 205 za zh (Int × Int × Int) zv zu zp) := by
  refine call_of (c:=bodyOf Try.f205) (n:=83) (fn:=Try.f205) Try.mixed Try.func205 (by kernel_rfl) (by kernel_rfl) (by kernel_rfl) 2000 _ [.rd 2, .rd 2, .rd 2, .rd 2, .rd 2, .rd 2, .rd 2, .rd 2, .rd 3, .rd 3, .rd 3, .rd 3] [] rfl rfl (Eq.mpr (wide_Divide_vc n d) ?_)
  intro b1
  intro b2
  intro b3
  intro b4
  refine ⟨rfl,rfl,rfl,rfl,rdQ_mk 1 _ ⟨rfl,⟨fun h1=> ?_,fun h1=> ?_⟩⟩⟩
  · refine ⟨rfl, rfl, rfl, rfl, rdQ_mk 1 _ ⟨rfl, ⟨fun h2 => ?_, fun h2 => ?_⟩⟩⟩
    · refine ⟨rfl,rfl,rfl,rfl,rdQ_mk 1 _ ⟨rfl,⟨fun h3=> ?_,fun h3=> ?_⟩⟩⟩
      · refine ⟨rfl,rfl,rfl,rfl,rdQ_mk 1 _ ⟨rfl,⟨fun h4=> ?_,fun h4=> ?_⟩⟩⟩
        · refine ⟨rfl,rfl,rfl,rfl,rfl,⟨rfl,⟨rfl,rdQ_mk 8 _ (rdQ_mk 4 _ (rdQ_mk 8 _ (rdQ_mk 4 _ (rdQ_mk 8 _ (rdQ_mk 4 _ ?_)))))⟩⟩⟩
          unfold wide_Divide_Q
          have hd:d=0:=by
            have e:=lims d
            rw [num_vI r_d] at e
            simp only [beq_iff_eq] at *
            omega
          exact fin3 (by rw [num_vI r_d,hd];rfl) ⟨by decide,by decide⟩ R4_zero vW_zero vI_zero
        refine ⟨rfl,rdQ_mk 1 _ (limb_Len_m (lim d 0) ⟨⟨(),trivial,congrArg (Value.int .i64) (nrm_s (W_lim _ _) (by assumption))⟩,fun _=>fun _=>fun b5=>fun b6=>wide_up98_m b5 b1 (lim n 0) (lim n 1) (lim n 2) (lim n 3) (lim n 4) (lim n 5) (lim n 6) (lim n 7) ((nrm (lim d 0):Nat):Int) (fun x7 h5=> ?_) (s0:=nrm_0 _) (s1:=nrm_63 (W_lim _ _) (by assumption)) (wc0:=W_lim _ _) (wc1:=W_lim _ _) (wc2:=W_lim _ _) (wc3:=W_lim _ _) (wc4:=W_lim _ _) (wc5:=W_lim _ _) (wc6:=W_lim _ _) (wc7:=W_lim _ _) (wt:=wit_up98 (nrm_0 _) (nrm_63 (W_lim _ _) (by assumption)) (W_lim _ _) (W_lim _ _) (W_lim _ _) (W_lim _ _) (W_lim _ _) (W_lim _ _) (W_lim _ _) (W_lim _ _))⟩)⟩
        obtain ⟨E,wx0,wx1,wx2,wx3,wx4,wx5,wx6,wx7,wx8⟩:=h5
        refine wide_up1_m b6 b2 (lim d 0) (lim d 1) (lim d 2) (lim d 3) ((nrm (lim d 0):Nat):Int) (fun x8 h6=> ?_) (s0:=nrm_0 _) (s1:=nrm_63 (W_lim _ _) (by assumption)) (wc0:=W_lim _ _) (wt:=wit_up1 (nrm_0 _) (nrm_63 (W_lim _ _) (by assumption)) (W_lim _ _))
        obtain ⟨F,wz0⟩:=h6
        obtain ⟨N1,N2,N3⟩:=norm1 (W_lim _ _) (by assumption) wz0  F
        obtain ⟨p,q,hp',hq',hp,hq,hpq,hp2,ht,h0,e1,e2⟩:=nrm_top (W_lim d 0) (by assumption)
        have n63:=nrm_63 (W_lim d 0) (by assumption)
        rw [e1,lims8 r_n] at E
        rw [←hp'] at N1
        have hVk:x8<18446744073709551616:=by unfold W at wz0;omega
        have V0:0<x8:=by omega
        have hlt7:=first1 r_n hp hp2 wx0 wx1 wx2 wx3 wx4 wx5 wx6 wx7 wx8 E N2
        refine ⟨rfl,wide_step1_m b5 (#[uu x7.1,uu x7.2.1,uu x7.2.2.1,uu x7.2.2.2.1,uu x7.2.2.2.2.1,uu x7.2.2.2.2.2.1,uu x7.2.2.2.2.2.2.1,uu x7.2.2.2.2.2.2.2.1,uu x7.2.2.2.2.2.2.2.2]) 7 2 x7.2.2.2.2.2.2.2.1 x7.2.2.2.2.2.2.2.2 b6 x8 (fun x9 h7=> ?_) (hsz:=Nat.le_of_ble_eq_true rfl) (hu0:=rfl) (hu1:=rfl) (wu0:=by assumption) (wu1:=by assumption) (wv0:=by assumption) (hlt:=hlt7) (hv:=N3) (wt:=wit_step1 (nn2 (by assumption) (by assumption)) hlt7 V0 hVk)⟩
        obtain ⟨h7,h7_0,h7_1⟩:=h7
        have A7:=h7.eq
        obtain ⟨hu6,hlt6⟩:=next1 (x:=x7.2.2.2.2.2.2.1) h7 wx6 h7_0 h7_1 hVk
        have wqh7:=h7.wq
        refine rdQ_mk 1 _ ⟨rfl,wide_step1_m b5 (#[uu x7.1,uu x7.2.1,uu x7.2.2.1,uu x7.2.2.2.1,uu x7.2.2.2.2.1,uu x7.2.2.2.2.2.1,uu x7.2.2.2.2.2.2.1,uu x9.2.1,uu x9.2.2]) 6 3 x7.2.2.2.2.2.2.1 x9.2.1 b6 x8 (fun x10 h8=> ?_) (hsz:=Nat.le_of_ble_eq_true rfl) (hu0:=rfl) (hu1:=rfl) (wu0:=by assumption) (wu1:=by assumption) (wv0:=by assumption) (hlt:=hlt6) (hv:=N3) (wt:=wit_step1 (nn2 (by assumption) (by assumption)) hlt6 V0 hVk)⟩
        obtain ⟨h8,h8_0,h8_1⟩:=h8
        rw [hu6] at h8
        have A6:=chain_step A7 h8
        obtain ⟨hu5,hlt5⟩:=next1 (x:=x7.2.2.2.2.2.1) h8 wx5 h8_0 h8_1 hVk
        have wqh8:=h8.wq
        refine rdQ_mk 1 _ ⟨rfl,wide_step1_m b5 (#[uu x7.1,uu x7.2.1,uu x7.2.2.1,uu x7.2.2.2.1,uu x7.2.2.2.2.1,uu x7.2.2.2.2.2.1,uu x10.2.1,uu x10.2.2,uu x9.2.2]) 5 4 x7.2.2.2.2.2.1 x10.2.1 b6 x8 (fun x11 h9=> ?_) (hsz:=Nat.le_of_ble_eq_true rfl) (hu0:=rfl) (hu1:=rfl) (wu0:=by assumption) (wu1:=by assumption) (wv0:=by assumption) (hlt:=hlt5) (hv:=N3) (wt:=wit_step1 (nn2 (by assumption) (by assumption)) hlt5 V0 hVk)⟩
        obtain ⟨h9,h9_0,h9_1⟩:=h9
        rw [hu5] at h9
        have A5:=chain_step A6 h9
        obtain ⟨hu4,hlt4⟩:=next1 (x:=x7.2.2.2.2.1) h9 wx4 h9_0 h9_1 hVk
        have wqh9:=h9.wq
        refine rdQ_mk 1 _ ⟨rfl,wide_step1_m b5 (#[uu x7.1,uu x7.2.1,uu x7.2.2.1,uu x7.2.2.2.1,uu x7.2.2.2.2.1,uu x11.2.1,uu x11.2.2,uu x10.2.2,uu x9.2.2]) 4 5 x7.2.2.2.2.1 x11.2.1 b6 x8 (fun x12 h10=> ?_) (hsz:=Nat.le_of_ble_eq_true rfl) (hu0:=rfl) (hu1:=rfl) (wu0:=by assumption) (wu1:=by assumption) (wv0:=by assumption) (hlt:=hlt4) (hv:=N3) (wt:=wit_step1 (nn2 (by assumption) (by assumption)) hlt4 V0 hVk)⟩
        obtain ⟨h10,h10_0,h10_1⟩:=h10
        rw [hu4] at h10
        have A4:=chain_step A5 h10
        obtain ⟨hu3,hlt3⟩:=next1 (x:=x7.2.2.2.1) h10 wx3 h10_0 h10_1 hVk
        have wqh10:=h10.wq
        refine rdQ_mk 1 _ ⟨rfl,wide_step1_m b5 (#[uu x7.1,uu x7.2.1,uu x7.2.2.1,uu x7.2.2.2.1,uu x12.2.1,uu x12.2.2,uu x11.2.2,uu x10.2.2,uu x9.2.2]) 3 6 x7.2.2.2.1 x12.2.1 b6 x8 (fun x13 h11=> ?_) (hsz:=Nat.le_of_ble_eq_true rfl) (hu0:=rfl) (hu1:=rfl) (wu0:=by assumption) (wu1:=by assumption) (wv0:=by assumption) (hlt:=hlt3) (hv:=N3) (wt:=wit_step1 (nn2 (by assumption) (by assumption)) hlt3 V0 hVk)⟩
        obtain ⟨h11,h11_0,h11_1⟩:=h11
        rw [hu3] at h11
        have A3:=chain_step A4 h11
        obtain ⟨hu2,hlt2⟩:=next1 (x:=x7.2.2.1) h11 wx2 h11_0 h11_1 hVk
        have wqh11:=h11.wq
        refine rdQ_mk 1 _ ⟨rfl,wide_step1_m b5 (#[uu x7.1,uu x7.2.1,uu x7.2.2.1,uu x13.2.1,uu x13.2.2,uu x12.2.2,uu x11.2.2,uu x10.2.2,uu x9.2.2]) 2 7 x7.2.2.1 x13.2.1 b6 x8 (fun x14 h12=> ?_) (hsz:=Nat.le_of_ble_eq_true rfl) (hu0:=rfl) (hu1:=rfl) (wu0:=by assumption) (wu1:=by assumption) (wv0:=by assumption) (hlt:=hlt2) (hv:=N3) (wt:=wit_step1 (nn2 (by assumption) (by assumption)) hlt2 V0 hVk)⟩
        obtain ⟨h12,h12_0,h12_1⟩:=h12
        rw [hu2] at h12
        have A2:=chain_step A3 h12
        obtain ⟨hu1,hlt1⟩:=next1 (x:=x7.2.1) h12 wx1 h12_0 h12_1 hVk
        have wqh12:=h12.wq
        refine rdQ_mk 1 _ ⟨rfl,wide_step1_m b5 (#[uu x7.1,uu x7.2.1,uu x14.2.1,uu x14.2.2,uu x13.2.2,uu x12.2.2,uu x11.2.2,uu x10.2.2,uu x9.2.2]) 1 8 x7.2.1 x14.2.1 b6 x8 (fun x15 h13=> ?_) (hsz:=Nat.le_of_ble_eq_true rfl) (hu0:=rfl) (hu1:=rfl) (wu0:=by assumption) (wu1:=by assumption) (wv0:=by assumption) (hlt:=hlt1) (hv:=N3) (wt:=wit_step1 (nn2 (by assumption) (by assumption)) hlt1 V0 hVk)⟩
        obtain ⟨h13,h13_0,h13_1⟩:=h13
        rw [hu1] at h13
        have A1:=chain_step A2 h13
        obtain ⟨hu0,hlt0⟩:=next1 (x:=x7.1) h13 wx0 h13_0 h13_1 hVk
        have wqh13:=h13.wq
        refine rdQ_mk 1 _ ⟨rfl,wide_step1_m b5 (#[uu x7.1,uu x15.2.1,uu x15.2.2,uu x14.2.2,uu x13.2.2,uu x12.2.2,uu x11.2.2,uu x10.2.2,uu x9.2.2]) 0 9 x7.1 x15.2.1 b6 x8 (fun x16 h14=> ?_) (hsz:=Nat.le_of_ble_eq_true rfl) (hu0:=rfl) (hu1:=rfl) (wu0:=by assumption) (wu1:=by assumption) (wv0:=by assumption) (hlt:=hlt0) (hv:=N3) (wt:=wit_step1 (nn2 (by assumption) (by assumption)) hlt0 V0 hVk)⟩
        obtain ⟨h14,h14_0,h14_1⟩:=h14
        rw [hu0] at h14
        have A0:=chain_step A1 h14
        have wqh14:=h14.wq
        refine rdQ_mk 1 _ ⟨rfl,⟨rfl,rdQ_mk 1 _ ⟨xshr (by omega),rdQ_mk 1 _ ⟨⟨(),trivial,congrArg (Value.int .i64) (wrap_i64 _ (by omega) (by omega))⟩,fun _=>fun _=>⟨xshl (by omega),rdQ_mk 1 _ ⟨rfl,rdQ_mk 8 _ (rdQ_mk 4 _ (rdQ_mk 8 _ (rdQ_mk 4 _ (rdQ_mk 8 _ (rdQ_mk 4 _ ?_)))))⟩⟩⟩⟩⟩⟩
        unfold wide_Divide_Q
        have hD:lim d 0=d:=by
          have e:=lims d
          rw [num_vI r_d] at e
          simp only [beq_iff_eq,beq_eq_false_iff_ne] at *
          omega
        rw [hD] at N1
        have A:((x16.1+18446744073709551616*(x15.1+18446744073709551616*(x14.1+18446744073709551616*(x13.1+18446744073709551616*(x12.1+18446744073709551616*(x11.1+18446744073709551616*(x10.1+18446744073709551616*x9.1))))))))*(x8)+(x16.2.1+18446744073709551616*x16.2.2)=n*p:=by rw [←E];rw [A0];omega
        obtain ⟨G1,G2,G3⟩:=div_end A N1 h14.r0 h14.r1 hp
        have G4:=rest1 hp hq hpq hVk h14_0 h14_1 G2 h14.r1
        have c0:=down_or (x:=x16.2.1) (y:=x16.2.2) (s:=((nrm (lim d 0):Nat):Int)) (nrm_0 _) (nrm_63 (W_lim _ _) (by assumption)) h14_0 h14_1
        rw [e1,e2] at c0
        have cw0:=down_W (y:=x16.2.2) hp hq hpq h14_0
        have W0:W 0:=by unfold W;decide
        have Hq:num (.agg #[.int .u64 x16.1, .int .u64 x15.1, .int .u64 x14.1, .int .u64 x13.1, .int .u64 x12.1, .int .u64 x11.1, .int .u64 x10.1, .int .u64 x9.1])=n/d:=by rw [G1,num8];omega
        have Hr:num (.agg #[.int .u64 (x16.2.1/p+x16.2.2*q%18446744073709551616), .int .u64 0, .int .u64 0, .int .u64 0])=n%d:=by rw [←G4,num4];omega
        have Hv:=vW_num8 (show W x16.1 by first | assumption | exact W0) (show W x15.1 by first | assumption | exact W0) (show W x14.1 by first | assumption | exact W0) (show W x13.1 by first | assumption | exact W0) (show W x12.1 by first | assumption | exact W0) (show W x11.1 by first | assumption | exact W0) (show W x10.1 by first | assumption | exact W0) (show W x9.1 by first | assumption | exact W0)
        have Hw:=vI_num4 cw0 W0 W0 W0
        rw [Hq] at Hv
        rw [Hr] at Hw
        refine fin3 (n:=n/d) (r:=n%d) (by rw [num_vW r_n,num_vI r_d];unfold wDiv;rw [if_neg G3]) (Hq▸R8_num8 (by first | assumption | exact W0) (by first | assumption | exact W0) (by first | assumption | exact W0) (by first | assumption | exact W0) (by first | assumption | exact W0) (by first | assumption | exact W0) (by first | assumption | exact W0) (by first | assumption | exact W0)) (Hr▸R4_num4 cw0 W0 W0 W0) Hv ?_
        rw [Hw,c0]
      refine ⟨rfl,rdQ_mk 1 _ (limb_Len_m (lim d 1) ⟨⟨(),trivial,congrArg (Value.int .i64) (nrm_s (W_lim _ _) (by assumption))⟩,fun _=>fun _=>fun b17=>fun b18=>wide_up98_m b17 b1 (lim n 0) (lim n 1) (lim n 2) (lim n 3) (lim n 4) (lim n 5) (lim n 6) (lim n 7) ((nrm (lim d 1):Nat):Int) (fun x19 h15=> ?_) (s0:=nrm_0 _) (s1:=nrm_63 (W_lim _ _) (by assumption)) (wc0:=W_lim _ _) (wc1:=W_lim _ _) (wc2:=W_lim _ _) (wc3:=W_lim _ _) (wc4:=W_lim _ _) (wc5:=W_lim _ _) (wc6:=W_lim _ _) (wc7:=W_lim _ _) (wt:=wit_up98 (nrm_0 _) (nrm_63 (W_lim _ _) (by assumption)) (W_lim _ _) (W_lim _ _) (W_lim _ _) (W_lim _ _) (W_lim _ _) (W_lim _ _) (W_lim _ _) (W_lim _ _))⟩)⟩
      obtain ⟨E,wx0,wx1,wx2,wx3,wx4,wx5,wx6,wx7,wx8⟩:=h15
      refine wide_up2_m b18 b2 (lim d 0) (lim d 1) (lim d 2) (lim d 3) ((nrm (lim d 1):Nat):Int) (fun x20 h16=> ?_) (s0:=nrm_0 _) (s1:=nrm_63 (W_lim _ _) (by assumption)) (wc0:=W_lim _ _) (wc1:=W_lim _ _) (wt:=wit_up2 (nrm_0 _) (nrm_63 (W_lim _ _) (by assumption)) (W_lim _ _) (W_lim _ _))
      obtain ⟨F,wz0,wz1⟩:=h16
      obtain ⟨N1,N2,N3⟩:=norm2 (W_lim _ _) (by assumption) wz0 wz1 (W_lim _ _) F
      obtain ⟨p,q,hp',hq',hp,hq,hpq,hp2,ht,h0,e1,e2⟩:=nrm_top (W_lim d 1) (by assumption)
      have n63:=nrm_63 (W_lim d 1) (by assumption)
      rw [e1,lims8 r_n] at E
      rw [←hp'] at N1
      have hVk:x20.1+18446744073709551616*x20.2<340282366920938463463374607431768211456:=by unfold W at wz0 wz1;omega
      have V0:0<x20.1+18446744073709551616*x20.2:=by omega
      have hlt6:=first2 r_n hp hp2 wx0 wx1 wx2 wx3 wx4 wx5 wx6 wx7 wx8 E N2
      refine ⟨rfl,wide_step2_m b17 (#[uu x19.1,uu x19.2.1,uu x19.2.2.1,uu x19.2.2.2.1,uu x19.2.2.2.2.1,uu x19.2.2.2.2.2.1,uu x19.2.2.2.2.2.2.1,uu x19.2.2.2.2.2.2.2.1,uu x19.2.2.2.2.2.2.2.2]) 6 3 x19.2.2.2.2.2.2.1 x19.2.2.2.2.2.2.2.1 x19.2.2.2.2.2.2.2.2 b18 x20.1 x20.2 (fun x21 h17=> ?_) (hsz:=Nat.le_of_ble_eq_true rfl) (hu0:=rfl) (hu1:=rfl) (hu2:=rfl) (wu0:=by assumption) (wu1:=by assumption) (wu2:=by assumption) (wv0:=by assumption) (wv1:=by assumption) (hlt:=hlt6) (hv:=N3) (wt:=wit_step2 (nn3 (by assumption) (by assumption) (by assumption)) hlt6 V0 hVk)⟩
      obtain ⟨h17,h17_0,h17_1,h17_2⟩:=h17
      have A6:=h17.eq
      obtain ⟨hu5,hlt5⟩:=next2 (x:=x19.2.2.2.2.2.1) h17 wx5 h17_0 h17_1 h17_2 hVk
      have wqh17:=h17.wq
      refine rdQ_mk 1 _ ⟨rfl,wide_step2_m b17 (#[uu x19.1,uu x19.2.1,uu x19.2.2.1,uu x19.2.2.2.1,uu x19.2.2.2.2.1,uu x19.2.2.2.2.2.1,uu x21.2.1,uu x21.2.2.1,uu x21.2.2.2]) 5 4 x19.2.2.2.2.2.1 x21.2.1 x21.2.2.1 b18 x20.1 x20.2 (fun x22 h18=> ?_) (hsz:=Nat.le_of_ble_eq_true rfl) (hu0:=rfl) (hu1:=rfl) (hu2:=rfl) (wu0:=by assumption) (wu1:=by assumption) (wu2:=by assumption) (wv0:=by assumption) (wv1:=by assumption) (hlt:=hlt5) (hv:=N3) (wt:=wit_step2 (nn3 (by assumption) (by assumption) (by assumption)) hlt5 V0 hVk)⟩
      obtain ⟨h18,h18_0,h18_1,h18_2⟩:=h18
      rw [hu5] at h18
      have A5:=chain_step A6 h18
      obtain ⟨hu4,hlt4⟩:=next2 (x:=x19.2.2.2.2.1) h18 wx4 h18_0 h18_1 h18_2 hVk
      have wqh18:=h18.wq
      refine rdQ_mk 1 _ ⟨rfl,wide_step2_m b17 (#[uu x19.1,uu x19.2.1,uu x19.2.2.1,uu x19.2.2.2.1,uu x19.2.2.2.2.1,uu x22.2.1,uu x22.2.2.1,uu x22.2.2.2,uu x21.2.2.2]) 4 5 x19.2.2.2.2.1 x22.2.1 x22.2.2.1 b18 x20.1 x20.2 (fun x23 h19=> ?_) (hsz:=Nat.le_of_ble_eq_true rfl) (hu0:=rfl) (hu1:=rfl) (hu2:=rfl) (wu0:=by assumption) (wu1:=by assumption) (wu2:=by assumption) (wv0:=by assumption) (wv1:=by assumption) (hlt:=hlt4) (hv:=N3) (wt:=wit_step2 (nn3 (by assumption) (by assumption) (by assumption)) hlt4 V0 hVk)⟩
      obtain ⟨h19,h19_0,h19_1,h19_2⟩:=h19
      rw [hu4] at h19
      have A4:=chain_step A5 h19
      obtain ⟨hu3,hlt3⟩:=next2 (x:=x19.2.2.2.1) h19 wx3 h19_0 h19_1 h19_2 hVk
      have wqh19:=h19.wq
      refine rdQ_mk 1 _ ⟨rfl,wide_step2_m b17 (#[uu x19.1,uu x19.2.1,uu x19.2.2.1,uu x19.2.2.2.1,uu x23.2.1,uu x23.2.2.1,uu x23.2.2.2,uu x22.2.2.2,uu x21.2.2.2]) 3 6 x19.2.2.2.1 x23.2.1 x23.2.2.1 b18 x20.1 x20.2 (fun x24 h20=> ?_) (hsz:=Nat.le_of_ble_eq_true rfl) (hu0:=rfl) (hu1:=rfl) (hu2:=rfl) (wu0:=by assumption) (wu1:=by assumption) (wu2:=by assumption) (wv0:=by assumption) (wv1:=by assumption) (hlt:=hlt3) (hv:=N3) (wt:=wit_step2 (nn3 (by assumption) (by assumption) (by assumption)) hlt3 V0 hVk)⟩
      obtain ⟨h20,h20_0,h20_1,h20_2⟩:=h20
      rw [hu3] at h20
      have A3:=chain_step A4 h20
      obtain ⟨hu2,hlt2⟩:=next2 (x:=x19.2.2.1) h20 wx2 h20_0 h20_1 h20_2 hVk
      have wqh20:=h20.wq
      refine rdQ_mk 1 _ ⟨rfl,wide_step2_m b17 (#[uu x19.1,uu x19.2.1,uu x19.2.2.1,uu x24.2.1,uu x24.2.2.1,uu x24.2.2.2,uu x23.2.2.2,uu x22.2.2.2,uu x21.2.2.2]) 2 7 x19.2.2.1 x24.2.1 x24.2.2.1 b18 x20.1 x20.2 (fun x25 h21=> ?_) (hsz:=Nat.le_of_ble_eq_true rfl) (hu0:=rfl) (hu1:=rfl) (hu2:=rfl) (wu0:=by assumption) (wu1:=by assumption) (wu2:=by assumption) (wv0:=by assumption) (wv1:=by assumption) (hlt:=hlt2) (hv:=N3) (wt:=wit_step2 (nn3 (by assumption) (by assumption) (by assumption)) hlt2 V0 hVk)⟩
      obtain ⟨h21,h21_0,h21_1,h21_2⟩:=h21
      rw [hu2] at h21
      have A2:=chain_step A3 h21
      obtain ⟨hu1,hlt1⟩:=next2 (x:=x19.2.1) h21 wx1 h21_0 h21_1 h21_2 hVk
      have wqh21:=h21.wq
      refine rdQ_mk 1 _ ⟨rfl,wide_step2_m b17 (#[uu x19.1,uu x19.2.1,uu x25.2.1,uu x25.2.2.1,uu x25.2.2.2,uu x24.2.2.2,uu x23.2.2.2,uu x22.2.2.2,uu x21.2.2.2]) 1 8 x19.2.1 x25.2.1 x25.2.2.1 b18 x20.1 x20.2 (fun x26 h22=> ?_) (hsz:=Nat.le_of_ble_eq_true rfl) (hu0:=rfl) (hu1:=rfl) (hu2:=rfl) (wu0:=by assumption) (wu1:=by assumption) (wu2:=by assumption) (wv0:=by assumption) (wv1:=by assumption) (hlt:=hlt1) (hv:=N3) (wt:=wit_step2 (nn3 (by assumption) (by assumption) (by assumption)) hlt1 V0 hVk)⟩
      obtain ⟨h22,h22_0,h22_1,h22_2⟩:=h22
      rw [hu1] at h22
      have A1:=chain_step A2 h22
      obtain ⟨hu0,hlt0⟩:=next2 (x:=x19.1) h22 wx0 h22_0 h22_1 h22_2 hVk
      have wqh22:=h22.wq
      refine rdQ_mk 1 _ ⟨rfl,wide_step2_m b17 (#[uu x19.1,uu x26.2.1,uu x26.2.2.1,uu x26.2.2.2,uu x25.2.2.2,uu x24.2.2.2,uu x23.2.2.2,uu x22.2.2.2,uu x21.2.2.2]) 0 9 x19.1 x26.2.1 x26.2.2.1 b18 x20.1 x20.2 (fun x27 h23=> ?_) (hsz:=Nat.le_of_ble_eq_true rfl) (hu0:=rfl) (hu1:=rfl) (hu2:=rfl) (wu0:=by assumption) (wu1:=by assumption) (wu2:=by assumption) (wv0:=by assumption) (wv1:=by assumption) (hlt:=hlt0) (hv:=N3) (wt:=wit_step2 (nn3 (by assumption) (by assumption) (by assumption)) hlt0 V0 hVk)⟩
      obtain ⟨h23,h23_0,h23_1,h23_2⟩:=h23
      rw [hu0] at h23
      have A0:=chain_step A1 h23
      have wqh23:=h23.wq
      refine rdQ_mk 1 _ ⟨rfl,⟨rfl,rdQ_mk 1 _ ⟨xshr (by omega),rdQ_mk 1 _ ⟨⟨(),trivial,congrArg (Value.int .i64) (wrap_i64 _ (by omega) (by omega))⟩,fun _=>fun _=>⟨xshl (by omega),rdQ_mk 1 _ ⟨rfl,rdQ_mk 1 _ ⟨xshr (by omega),rdQ_mk 1 _ ⟨⟨(),trivial,congrArg (Value.int .i64) (wrap_i64 _ (by omega) (by omega))⟩,fun _=>fun _=>⟨xshl (by omega),rdQ_mk 1 _ ⟨rfl,rdQ_mk 8 _ (rdQ_mk 4 _ (rdQ_mk 8 _ (rdQ_mk 4 _ (rdQ_mk 8 _ (rdQ_mk 4 _ ?_)))))⟩⟩⟩⟩⟩⟩⟩⟩⟩⟩
      unfold wide_Divide_Q
      have hD:lim d 0+18446744073709551616*lim d 1=d:=by
        have e:=lims d
        rw [num_vI r_d] at e
        simp only [beq_iff_eq,beq_eq_false_iff_ne] at *
        omega
      rw [hD] at N1
      have A:((x27.1+18446744073709551616*(x26.1+18446744073709551616*(x25.1+18446744073709551616*(x24.1+18446744073709551616*(x23.1+18446744073709551616*(x22.1+18446744073709551616*x21.1)))))))*(x20.1+18446744073709551616*x20.2)+(x27.2.1+18446744073709551616*x27.2.2.1+340282366920938463463374607431768211456*x27.2.2.2)=n*p:=by rw [←E];rw [A0];omega
      obtain ⟨G1,G2,G3⟩:=div_end A N1 h23.r0 h23.r1 hp
      have G4:=rest2 hp hq hpq hVk h23_0 h23_1 h23_2 G2 h23.r1
      have c0:=down_or (x:=x27.2.1) (y:=x27.2.2.1) (s:=((nrm (lim d 1):Nat):Int)) (nrm_0 _) (nrm_63 (W_lim _ _) (by assumption)) h23_0 h23_1
      rw [e1,e2] at c0
      have cw0:=down_W (y:=x27.2.2.1) hp hq hpq h23_0
      have c1:=down_or (x:=x27.2.2.1) (y:=x27.2.2.2) (s:=((nrm (lim d 1):Nat):Int)) (nrm_0 _) (nrm_63 (W_lim _ _) (by assumption)) h23_1 h23_2
      rw [e1,e2] at c1
      have cw1:=down_W (y:=x27.2.2.2) hp hq hpq h23_1
      have W0:W 0:=by unfold W;decide
      have Hq:num (.agg #[.int .u64 x27.1, .int .u64 x26.1, .int .u64 x25.1, .int .u64 x24.1, .int .u64 x23.1, .int .u64 x22.1, .int .u64 x21.1, .int .u64 0])=n/d:=by rw [G1,num8];omega
      have Hr:num (.agg #[.int .u64 (x27.2.1/p+x27.2.2.1*q%18446744073709551616), .int .u64 (x27.2.2.1/p+x27.2.2.2*q%18446744073709551616), .int .u64 0, .int .u64 0])=n%d:=by rw [←G4,num4];omega
      have Hv:=vW_num8 (show W x27.1 by first | assumption | exact W0) (show W x26.1 by first | assumption | exact W0) (show W x25.1 by first | assumption | exact W0) (show W x24.1 by first | assumption | exact W0) (show W x23.1 by first | assumption | exact W0) (show W x22.1 by first | assumption | exact W0) (show W x21.1 by first | assumption | exact W0) (show W 0 by first | assumption | exact W0)
      have Hw:=vI_num4 cw0 cw1 W0 W0
      rw [Hq] at Hv
      rw [Hr] at Hw
      refine fin3 (n:=n/d) (r:=n%d) (by rw [num_vW r_n,num_vI r_d];unfold wDiv;rw [if_neg G3]) (Hq▸R8_num8 (by first | assumption | exact W0) (by first | assumption | exact W0) (by first | assumption | exact W0) (by first | assumption | exact W0) (by first | assumption | exact W0) (by first | assumption | exact W0) (by first | assumption | exact W0) (by first | assumption | exact W0)) (Hr▸R4_num4 cw0 cw1 W0 W0) Hv ?_
      rw [Hw,c0,c1]
    refine ⟨rfl,rdQ_mk 1 _ (limb_Len_m (lim d 2) ⟨⟨(),trivial,congrArg (Value.int .i64) (nrm_s (W_lim _ _) (by assumption))⟩,fun _=>fun _=>fun b28=>fun b29=>wide_up98_m b28 b1 (lim n 0) (lim n 1) (lim n 2) (lim n 3) (lim n 4) (lim n 5) (lim n 6) (lim n 7) ((nrm (lim d 2):Nat):Int) (fun x30 h24=> ?_) (s0:=nrm_0 _) (s1:=nrm_63 (W_lim _ _) (by assumption)) (wc0:=W_lim _ _) (wc1:=W_lim _ _) (wc2:=W_lim _ _) (wc3:=W_lim _ _) (wc4:=W_lim _ _) (wc5:=W_lim _ _) (wc6:=W_lim _ _) (wc7:=W_lim _ _) (wt:=wit_up98 (nrm_0 _) (nrm_63 (W_lim _ _) (by assumption)) (W_lim _ _) (W_lim _ _) (W_lim _ _) (W_lim _ _) (W_lim _ _) (W_lim _ _) (W_lim _ _) (W_lim _ _))⟩)⟩
    obtain ⟨E,wx0,wx1,wx2,wx3,wx4,wx5,wx6,wx7,wx8⟩:=h24
    refine wide_up3_m b29 b2 (lim d 0) (lim d 1) (lim d 2) (lim d 3) ((nrm (lim d 2):Nat):Int) (fun x31 h25=> ?_) (s0:=nrm_0 _) (s1:=nrm_63 (W_lim _ _) (by assumption)) (wc0:=W_lim _ _) (wc1:=W_lim _ _) (wc2:=W_lim _ _) (wt:=wit_up3 (nrm_0 _) (nrm_63 (W_lim _ _) (by assumption)) (W_lim _ _) (W_lim _ _) (W_lim _ _))
    obtain ⟨F,wz0,wz1,wz2⟩:=h25
    obtain ⟨N1,N2,N3⟩:=norm3 (W_lim _ _) (by assumption) wz0 wz1 wz2 (W_lim _ _) (W_lim _ _) F
    obtain ⟨p,q,hp',hq',hp,hq,hpq,hp2,ht,h0,e1,e2⟩:=nrm_top (W_lim d 2) (by assumption)
    have n63:=nrm_63 (W_lim d 2) (by assumption)
    rw [e1,lims8 r_n] at E
    rw [←hp'] at N1
    have hVk:x31.1+18446744073709551616*x31.2.1+340282366920938463463374607431768211456*x31.2.2<6277101735386680763835789423207666416102355444464034512896:=by unfold W at wz0 wz1 wz2;omega
    have V0:0<x31.1+18446744073709551616*x31.2.1+340282366920938463463374607431768211456*x31.2.2:=by omega
    have hlt5:=first3 r_n hp hp2 wx0 wx1 wx2 wx3 wx4 wx5 wx6 wx7 wx8 E N2
    refine ⟨rfl,wide_step3_m b28 (#[uu x30.1,uu x30.2.1,uu x30.2.2.1,uu x30.2.2.2.1,uu x30.2.2.2.2.1,uu x30.2.2.2.2.2.1,uu x30.2.2.2.2.2.2.1,uu x30.2.2.2.2.2.2.2.1,uu x30.2.2.2.2.2.2.2.2]) 5 4 x30.2.2.2.2.2.1 x30.2.2.2.2.2.2.1 x30.2.2.2.2.2.2.2.1 x30.2.2.2.2.2.2.2.2 b29 x31.1 x31.2.1 x31.2.2 (fun x32 h26=> ?_) (hsz:=Nat.le_of_ble_eq_true rfl) (hu0:=rfl) (hu1:=rfl) (hu2:=rfl) (hu3:=rfl) (wu0:=by assumption) (wu1:=by assumption) (wu2:=by assumption) (wu3:=by assumption) (wv0:=by assumption) (wv1:=by assumption) (wv2:=by assumption) (hlt:=hlt5) (hv:=N3) (wt:=wit_step3 (nn4 (by assumption) (by assumption) (by assumption) (by assumption)) hlt5 V0 hVk)⟩
    obtain ⟨h26,h26_0,h26_1,h26_2,h26_3⟩:=h26
    have A5:=h26.eq
    obtain ⟨hu4,hlt4⟩:=next3 (x:=x30.2.2.2.2.1) h26 wx4 h26_0 h26_1 h26_2 h26_3 hVk
    have wqh26:=h26.wq
    refine rdQ_mk 1 _ ⟨rfl,wide_step3_m b28 (#[uu x30.1,uu x30.2.1,uu x30.2.2.1,uu x30.2.2.2.1,uu x30.2.2.2.2.1,uu x32.2.1,uu x32.2.2.1,uu x32.2.2.2.1,uu x32.2.2.2.2]) 4 5 x30.2.2.2.2.1 x32.2.1 x32.2.2.1 x32.2.2.2.1 b29 x31.1 x31.2.1 x31.2.2 (fun x33 h27=> ?_) (hsz:=Nat.le_of_ble_eq_true rfl) (hu0:=rfl) (hu1:=rfl) (hu2:=rfl) (hu3:=rfl) (wu0:=by assumption) (wu1:=by assumption) (wu2:=by assumption) (wu3:=by assumption) (wv0:=by assumption) (wv1:=by assumption) (wv2:=by assumption) (hlt:=hlt4) (hv:=N3) (wt:=wit_step3 (nn4 (by assumption) (by assumption) (by assumption) (by assumption)) hlt4 V0 hVk)⟩
    obtain ⟨h27,h27_0,h27_1,h27_2,h27_3⟩:=h27
    rw [hu4] at h27
    have A4:=chain_step A5 h27
    obtain ⟨hu3,hlt3⟩:=next3 (x:=x30.2.2.2.1) h27 wx3 h27_0 h27_1 h27_2 h27_3 hVk
    have wqh27:=h27.wq
    refine rdQ_mk 1 _ ⟨rfl,wide_step3_m b28 (#[uu x30.1,uu x30.2.1,uu x30.2.2.1,uu x30.2.2.2.1,uu x33.2.1,uu x33.2.2.1,uu x33.2.2.2.1,uu x33.2.2.2.2,uu x32.2.2.2.2]) 3 6 x30.2.2.2.1 x33.2.1 x33.2.2.1 x33.2.2.2.1 b29 x31.1 x31.2.1 x31.2.2 (fun x34 h28=> ?_) (hsz:=Nat.le_of_ble_eq_true rfl) (hu0:=rfl) (hu1:=rfl) (hu2:=rfl) (hu3:=rfl) (wu0:=by assumption) (wu1:=by assumption) (wu2:=by assumption) (wu3:=by assumption) (wv0:=by assumption) (wv1:=by assumption) (wv2:=by assumption) (hlt:=hlt3) (hv:=N3) (wt:=wit_step3 (nn4 (by assumption) (by assumption) (by assumption) (by assumption)) hlt3 V0 hVk)⟩
    obtain ⟨h28,h28_0,h28_1,h28_2,h28_3⟩:=h28
    rw [hu3] at h28
    have A3:=chain_step A4 h28
    obtain ⟨hu2,hlt2⟩:=next3 (x:=x30.2.2.1) h28 wx2 h28_0 h28_1 h28_2 h28_3 hVk
    have wqh28:=h28.wq
    refine rdQ_mk 1 _ ⟨rfl,wide_step3_m b28 (#[uu x30.1,uu x30.2.1,uu x30.2.2.1,uu x34.2.1,uu x34.2.2.1,uu x34.2.2.2.1,uu x34.2.2.2.2,uu x33.2.2.2.2,uu x32.2.2.2.2]) 2 7 x30.2.2.1 x34.2.1 x34.2.2.1 x34.2.2.2.1 b29 x31.1 x31.2.1 x31.2.2 (fun x35 h29=> ?_) (hsz:=Nat.le_of_ble_eq_true rfl) (hu0:=rfl) (hu1:=rfl) (hu2:=rfl) (hu3:=rfl) (wu0:=by assumption) (wu1:=by assumption) (wu2:=by assumption) (wu3:=by assumption) (wv0:=by assumption) (wv1:=by assumption) (wv2:=by assumption) (hlt:=hlt2) (hv:=N3) (wt:=wit_step3 (nn4 (by assumption) (by assumption) (by assumption) (by assumption)) hlt2 V0 hVk)⟩
    obtain ⟨h29,h29_0,h29_1,h29_2,h29_3⟩:=h29
    rw [hu2] at h29
    have A2:=chain_step A3 h29
    obtain ⟨hu1,hlt1⟩:=next3 (x:=x30.2.1) h29 wx1 h29_0 h29_1 h29_2 h29_3 hVk
    have wqh29:=h29.wq
    refine rdQ_mk 1 _ ⟨rfl,wide_step3_m b28 (#[uu x30.1,uu x30.2.1,uu x35.2.1,uu x35.2.2.1,uu x35.2.2.2.1,uu x35.2.2.2.2,uu x34.2.2.2.2,uu x33.2.2.2.2,uu x32.2.2.2.2]) 1 8 x30.2.1 x35.2.1 x35.2.2.1 x35.2.2.2.1 b29 x31.1 x31.2.1 x31.2.2 (fun x36 h30=> ?_) (hsz:=Nat.le_of_ble_eq_true rfl) (hu0:=rfl) (hu1:=rfl) (hu2:=rfl) (hu3:=rfl) (wu0:=by assumption) (wu1:=by assumption) (wu2:=by assumption) (wu3:=by assumption) (wv0:=by assumption) (wv1:=by assumption) (wv2:=by assumption) (hlt:=hlt1) (hv:=N3) (wt:=wit_step3 (nn4 (by assumption) (by assumption) (by assumption) (by assumption)) hlt1 V0 hVk)⟩
    obtain ⟨h30,h30_0,h30_1,h30_2,h30_3⟩:=h30
    rw [hu1] at h30
    have A1:=chain_step A2 h30
    obtain ⟨hu0,hlt0⟩:=next3 (x:=x30.1) h30 wx0 h30_0 h30_1 h30_2 h30_3 hVk
    have wqh30:=h30.wq
    refine rdQ_mk 1 _ ⟨rfl,wide_step3_m b28 (#[uu x30.1,uu x36.2.1,uu x36.2.2.1,uu x36.2.2.2.1,uu x36.2.2.2.2,uu x35.2.2.2.2,uu x34.2.2.2.2,uu x33.2.2.2.2,uu x32.2.2.2.2]) 0 9 x30.1 x36.2.1 x36.2.2.1 x36.2.2.2.1 b29 x31.1 x31.2.1 x31.2.2 (fun x37 h31=> ?_) (hsz:=Nat.le_of_ble_eq_true rfl) (hu0:=rfl) (hu1:=rfl) (hu2:=rfl) (hu3:=rfl) (wu0:=by assumption) (wu1:=by assumption) (wu2:=by assumption) (wu3:=by assumption) (wv0:=by assumption) (wv1:=by assumption) (wv2:=by assumption) (hlt:=hlt0) (hv:=N3) (wt:=wit_step3 (nn4 (by assumption) (by assumption) (by assumption) (by assumption)) hlt0 V0 hVk)⟩
    obtain ⟨h31,h31_0,h31_1,h31_2,h31_3⟩:=h31
    rw [hu0] at h31
    have A0:=chain_step A1 h31
    have wqh31:=h31.wq
    refine rdQ_mk 1 _ ⟨rfl,⟨rfl,rdQ_mk 1 _ ⟨xshr (by omega),rdQ_mk 1 _ ⟨⟨(),trivial,congrArg (Value.int .i64) (wrap_i64 _ (by omega) (by omega))⟩,fun _=>fun _=>⟨xshl (by omega),rdQ_mk 1 _ ⟨rfl,rdQ_mk 1 _ ⟨xshr (by omega),rdQ_mk 1 _ ⟨⟨(),trivial,congrArg (Value.int .i64) (wrap_i64 _ (by omega) (by omega))⟩,fun _=>fun _=>⟨xshl (by omega),rdQ_mk 1 _ ⟨rfl,rdQ_mk 1 _ ⟨xshr (by omega),rdQ_mk 1 _ ⟨⟨(),trivial,congrArg (Value.int .i64) (wrap_i64 _ (by omega) (by omega))⟩,fun _=>fun _=>⟨xshl (by omega),rdQ_mk 1 _ ⟨rfl,rdQ_mk 8 _ (rdQ_mk 4 _ (rdQ_mk 8 _ (rdQ_mk 4 _ (rdQ_mk 8 _ (rdQ_mk 4 _ ?_)))))⟩⟩⟩⟩⟩⟩⟩⟩⟩⟩⟩⟩⟩⟩
    unfold wide_Divide_Q
    have hD:lim d 0+18446744073709551616*lim d 1+340282366920938463463374607431768211456*lim d 2=d:=by
      have e:=lims d
      rw [num_vI r_d] at e
      simp only [beq_iff_eq,beq_eq_false_iff_ne] at *
      omega
    rw [hD] at N1
    have A:((x37.1+18446744073709551616*(x36.1+18446744073709551616*(x35.1+18446744073709551616*(x34.1+18446744073709551616*(x33.1+18446744073709551616*x32.1))))))*(x31.1+18446744073709551616*x31.2.1+340282366920938463463374607431768211456*x31.2.2)+(x37.2.1+18446744073709551616*x37.2.2.1+340282366920938463463374607431768211456*x37.2.2.2.1+6277101735386680763835789423207666416102355444464034512896*x37.2.2.2.2)=n*p:=by rw [←E];rw [A0];omega
    obtain ⟨G1,G2,G3⟩:=div_end A N1 h31.r0 h31.r1 hp
    have G4:=rest3 hp hq hpq hVk h31_0 h31_1 h31_2 h31_3 G2 h31.r1
    have c0:=down_or (x:=x37.2.1) (y:=x37.2.2.1) (s:=((nrm (lim d 2):Nat):Int)) (nrm_0 _) (nrm_63 (W_lim _ _) (by assumption)) h31_0 h31_1
    rw [e1,e2] at c0
    have cw0:=down_W (y:=x37.2.2.1) hp hq hpq h31_0
    have c1:=down_or (x:=x37.2.2.1) (y:=x37.2.2.2.1) (s:=((nrm (lim d 2):Nat):Int)) (nrm_0 _) (nrm_63 (W_lim _ _) (by assumption)) h31_1 h31_2
    rw [e1,e2] at c1
    have cw1:=down_W (y:=x37.2.2.2.1) hp hq hpq h31_1
    have c2:=down_or (x:=x37.2.2.2.1) (y:=x37.2.2.2.2) (s:=((nrm (lim d 2):Nat):Int)) (nrm_0 _) (nrm_63 (W_lim _ _) (by assumption)) h31_2 h31_3
    rw [e1,e2] at c2
    have cw2:=down_W (y:=x37.2.2.2.2) hp hq hpq h31_2
    have W0:W 0:=by unfold W;decide
    have Hq:num (.agg #[.int .u64 x37.1, .int .u64 x36.1, .int .u64 x35.1, .int .u64 x34.1, .int .u64 x33.1, .int .u64 x32.1, .int .u64 0, .int .u64 0])=n/d:=by rw [G1,num8];omega
    have Hr:num (.agg #[.int .u64 (x37.2.1/p+x37.2.2.1*q%18446744073709551616), .int .u64 (x37.2.2.1/p+x37.2.2.2.1*q%18446744073709551616), .int .u64 (x37.2.2.2.1/p+x37.2.2.2.2*q%18446744073709551616), .int .u64 0])=n%d:=by rw [←G4,num4];omega
    have Hv:=vW_num8 (show W x37.1 by first | assumption | exact W0) (show W x36.1 by first | assumption | exact W0) (show W x35.1 by first | assumption | exact W0) (show W x34.1 by first | assumption | exact W0) (show W x33.1 by first | assumption | exact W0) (show W x32.1 by first | assumption | exact W0) (show W 0 by first | assumption | exact W0) (show W 0 by first | assumption | exact W0)
    have Hw:=vI_num4 cw0 cw1 cw2 W0
    rw [Hq] at Hv
    rw [Hr] at Hw
    refine fin3 (n:=n/d) (r:=n%d) (by rw [num_vW r_n,num_vI r_d];unfold wDiv;rw [if_neg G3]) (Hq▸R8_num8 (by first | assumption | exact W0) (by first | assumption | exact W0) (by first | assumption | exact W0) (by first | assumption | exact W0) (by first | assumption | exact W0) (by first | assumption | exact W0) (by first | assumption | exact W0) (by first | assumption | exact W0)) (Hr▸R4_num4 cw0 cw1 cw2 W0) Hv ?_
    rw [Hw,c0,c1,c2]
  refine ⟨rfl,rdQ_mk 1 _ (limb_Len_m (lim d 3) ⟨⟨(),trivial,congrArg (Value.int .i64) (nrm_s (W_lim _ _) (by assumption))⟩,fun _=>fun _=>fun b38=>fun b39=>wide_up98_m b38 b1 (lim n 0) (lim n 1) (lim n 2) (lim n 3) (lim n 4) (lim n 5) (lim n 6) (lim n 7) ((nrm (lim d 3):Nat):Int) (fun x40 h32=> ?_) (s0:=nrm_0 _) (s1:=nrm_63 (W_lim _ _) (by assumption)) (wc0:=W_lim _ _) (wc1:=W_lim _ _) (wc2:=W_lim _ _) (wc3:=W_lim _ _) (wc4:=W_lim _ _) (wc5:=W_lim _ _) (wc6:=W_lim _ _) (wc7:=W_lim _ _) (wt:=wit_up98 (nrm_0 _) (nrm_63 (W_lim _ _) (by assumption)) (W_lim _ _) (W_lim _ _) (W_lim _ _) (W_lim _ _) (W_lim _ _) (W_lim _ _) (W_lim _ _) (W_lim _ _))⟩)⟩
  obtain ⟨E,wx0,wx1,wx2,wx3,wx4,wx5,wx6,wx7,wx8⟩:=h32
  refine wide_up4_m b39 b2 (lim d 0) (lim d 1) (lim d 2) (lim d 3) ((nrm (lim d 3):Nat):Int) (fun x41 h33=> ?_) (s0:=nrm_0 _) (s1:=nrm_63 (W_lim _ _) (by assumption)) (wc0:=W_lim _ _) (wc1:=W_lim _ _) (wc2:=W_lim _ _) (wc3:=W_lim _ _) (wt:=wit_up4 (nrm_0 _) (nrm_63 (W_lim _ _) (by assumption)) (W_lim _ _) (W_lim _ _) (W_lim _ _) (W_lim _ _))
  obtain ⟨F,wz0,wz1,wz2,wz3⟩:=h33
  obtain ⟨N1,N2,N3⟩:=norm4 (W_lim _ _) (by assumption) wz0 wz1 wz2 wz3 (W_lim _ _) (W_lim _ _) (W_lim _ _) F
  obtain ⟨p,q,hp',hq',hp,hq,hpq,hp2,ht,h0,e1,e2⟩:=nrm_top (W_lim d 3) (by assumption)
  have n63:=nrm_63 (W_lim d 3) (by assumption)
  rw [e1,lims8 r_n] at E
  rw [←hp'] at N1
  have hVk:x41.1+18446744073709551616*x41.2.1+340282366920938463463374607431768211456*x41.2.2.1+6277101735386680763835789423207666416102355444464034512896*x41.2.2.2<115792089237316195423570985008687907853269984665640564039457584007913129639936:=by unfold W at wz0 wz1 wz2 wz3;omega
  have V0:0<x41.1+18446744073709551616*x41.2.1+340282366920938463463374607431768211456*x41.2.2.1+6277101735386680763835789423207666416102355444464034512896*x41.2.2.2:=by omega
  have hlt4:=first4 r_n hp hp2 wx0 wx1 wx2 wx3 wx4 wx5 wx6 wx7 wx8 E N2
  refine ⟨rfl,wide_step4_m b38 (#[uu x40.1,uu x40.2.1,uu x40.2.2.1,uu x40.2.2.2.1,uu x40.2.2.2.2.1,uu x40.2.2.2.2.2.1,uu x40.2.2.2.2.2.2.1,uu x40.2.2.2.2.2.2.2.1,uu x40.2.2.2.2.2.2.2.2]) 4 5 x40.2.2.2.2.1 x40.2.2.2.2.2.1 x40.2.2.2.2.2.2.1 x40.2.2.2.2.2.2.2.1 x40.2.2.2.2.2.2.2.2 b39 x41.1 x41.2.1 x41.2.2.1 x41.2.2.2 (fun x42 h34=> ?_) (hsz:=Nat.le_of_ble_eq_true rfl) (hu0:=rfl) (hu1:=rfl) (hu2:=rfl) (hu3:=rfl) (hu4:=rfl) (wu0:=by assumption) (wu1:=by assumption) (wu2:=by assumption) (wu3:=by assumption) (wu4:=by assumption) (wv0:=by assumption) (wv1:=by assumption) (wv2:=by assumption) (wv3:=by assumption) (hlt:=hlt4) (hv:=N3) (wt:=wit_step4 (nn5 (by assumption) (by assumption) (by assumption) (by assumption) (by assumption)) hlt4 V0 hVk)⟩
  obtain ⟨h34,h34_0,h34_1,h34_2,h34_3,h34_4⟩:=h34
  have A4:=h34.eq
  obtain ⟨hu3,hlt3⟩:=next4 (x:=x40.2.2.2.1) h34 wx3 h34_0 h34_1 h34_2 h34_3 h34_4 hVk
  have wqh34:=h34.wq
  refine rdQ_mk 1 _ ⟨rfl,wide_step4_m b38 (#[uu x40.1,uu x40.2.1,uu x40.2.2.1,uu x40.2.2.2.1,uu x42.2.1,uu x42.2.2.1,uu x42.2.2.2.1,uu x42.2.2.2.2.1,uu x42.2.2.2.2.2]) 3 6 x40.2.2.2.1 x42.2.1 x42.2.2.1 x42.2.2.2.1 x42.2.2.2.2.1 b39 x41.1 x41.2.1 x41.2.2.1 x41.2.2.2 (fun x43 h35=> ?_) (hsz:=Nat.le_of_ble_eq_true rfl) (hu0:=rfl) (hu1:=rfl) (hu2:=rfl) (hu3:=rfl) (hu4:=rfl) (wu0:=by assumption) (wu1:=by assumption) (wu2:=by assumption) (wu3:=by assumption) (wu4:=by assumption) (wv0:=by assumption) (wv1:=by assumption) (wv2:=by assumption) (wv3:=by assumption) (hlt:=hlt3) (hv:=N3) (wt:=wit_step4 (nn5 (by assumption) (by assumption) (by assumption) (by assumption) (by assumption)) hlt3 V0 hVk)⟩
  obtain ⟨h35,h35_0,h35_1,h35_2,h35_3,h35_4⟩:=h35
  rw [hu3] at h35
  have A3:=chain_step A4 h35
  obtain ⟨hu2,hlt2⟩:=next4 (x:=x40.2.2.1) h35 wx2 h35_0 h35_1 h35_2 h35_3 h35_4 hVk
  have wqh35:=h35.wq
  refine rdQ_mk 1 _ ⟨rfl,wide_step4_m b38 (#[uu x40.1,uu x40.2.1,uu x40.2.2.1,uu x43.2.1,uu x43.2.2.1,uu x43.2.2.2.1,uu x43.2.2.2.2.1,uu x43.2.2.2.2.2,uu x42.2.2.2.2.2]) 2 7 x40.2.2.1 x43.2.1 x43.2.2.1 x43.2.2.2.1 x43.2.2.2.2.1 b39 x41.1 x41.2.1 x41.2.2.1 x41.2.2.2 (fun x44 h36=> ?_) (hsz:=Nat.le_of_ble_eq_true rfl) (hu0:=rfl) (hu1:=rfl) (hu2:=rfl) (hu3:=rfl) (hu4:=rfl) (wu0:=by assumption) (wu1:=by assumption) (wu2:=by assumption) (wu3:=by assumption) (wu4:=by assumption) (wv0:=by assumption) (wv1:=by assumption) (wv2:=by assumption) (wv3:=by assumption) (hlt:=hlt2) (hv:=N3) (wt:=wit_step4 (nn5 (by assumption) (by assumption) (by assumption) (by assumption) (by assumption)) hlt2 V0 hVk)⟩
  obtain ⟨h36,h36_0,h36_1,h36_2,h36_3,h36_4⟩:=h36
  rw [hu2] at h36
  have A2:=chain_step A3 h36
  obtain ⟨hu1,hlt1⟩:=next4 (x:=x40.2.1) h36 wx1 h36_0 h36_1 h36_2 h36_3 h36_4 hVk
  have wqh36:=h36.wq
  refine rdQ_mk 1 _ ⟨rfl,wide_step4_m b38 (#[uu x40.1,uu x40.2.1,uu x44.2.1,uu x44.2.2.1,uu x44.2.2.2.1,uu x44.2.2.2.2.1,uu x44.2.2.2.2.2,uu x43.2.2.2.2.2,uu x42.2.2.2.2.2]) 1 8 x40.2.1 x44.2.1 x44.2.2.1 x44.2.2.2.1 x44.2.2.2.2.1 b39 x41.1 x41.2.1 x41.2.2.1 x41.2.2.2 (fun x45 h37=> ?_) (hsz:=Nat.le_of_ble_eq_true rfl) (hu0:=rfl) (hu1:=rfl) (hu2:=rfl) (hu3:=rfl) (hu4:=rfl) (wu0:=by assumption) (wu1:=by assumption) (wu2:=by assumption) (wu3:=by assumption) (wu4:=by assumption) (wv0:=by assumption) (wv1:=by assumption) (wv2:=by assumption) (wv3:=by assumption) (hlt:=hlt1) (hv:=N3) (wt:=wit_step4 (nn5 (by assumption) (by assumption) (by assumption) (by assumption) (by assumption)) hlt1 V0 hVk)⟩
  obtain ⟨h37,h37_0,h37_1,h37_2,h37_3,h37_4⟩:=h37
  rw [hu1] at h37
  have A1:=chain_step A2 h37
  obtain ⟨hu0,hlt0⟩:=next4 (x:=x40.1) h37 wx0 h37_0 h37_1 h37_2 h37_3 h37_4 hVk
  have wqh37:=h37.wq
  refine rdQ_mk 1 _ ⟨rfl,wide_step4_m b38 (#[uu x40.1,uu x45.2.1,uu x45.2.2.1,uu x45.2.2.2.1,uu x45.2.2.2.2.1,uu x45.2.2.2.2.2,uu x44.2.2.2.2.2,uu x43.2.2.2.2.2,uu x42.2.2.2.2.2]) 0 9 x40.1 x45.2.1 x45.2.2.1 x45.2.2.2.1 x45.2.2.2.2.1 b39 x41.1 x41.2.1 x41.2.2.1 x41.2.2.2 (fun x46 h38=> ?_) (hsz:=Nat.le_of_ble_eq_true rfl) (hu0:=rfl) (hu1:=rfl) (hu2:=rfl) (hu3:=rfl) (hu4:=rfl) (wu0:=by assumption) (wu1:=by assumption) (wu2:=by assumption) (wu3:=by assumption) (wu4:=by assumption) (wv0:=by assumption) (wv1:=by assumption) (wv2:=by assumption) (wv3:=by assumption) (hlt:=hlt0) (hv:=N3) (wt:=wit_step4 (nn5 (by assumption) (by assumption) (by assumption) (by assumption) (by assumption)) hlt0 V0 hVk)⟩
  obtain ⟨h38,h38_0,h38_1,h38_2,h38_3,h38_4⟩:=h38
  rw [hu0] at h38
  have A0:=chain_step A1 h38
  have wqh38:=h38.wq
  refine rdQ_mk 1 _ ⟨rfl,⟨rfl,rdQ_mk 1 _ ⟨xshr (by omega),rdQ_mk 1 _ ⟨⟨(),trivial,congrArg (Value.int .i64) (wrap_i64 _ (by omega) (by omega))⟩,fun _=>fun _=>⟨xshl (by omega),rdQ_mk 1 _ ⟨rfl,rdQ_mk 1 _ ⟨xshr (by omega),rdQ_mk 1 _ ⟨⟨(),trivial,congrArg (Value.int .i64) (wrap_i64 _ (by omega) (by omega))⟩,fun _=>fun _=>⟨xshl (by omega),rdQ_mk 1 _ ⟨rfl,rdQ_mk 1 _ ⟨xshr (by omega),rdQ_mk 1 _ ⟨⟨(),trivial,congrArg (Value.int .i64) (wrap_i64 _ (by omega) (by omega))⟩,fun _=>fun _=>⟨xshl (by omega),rdQ_mk 1 _ ⟨rfl,rdQ_mk 1 _ ⟨xshr (by omega),rdQ_mk 1 _ ⟨⟨(),trivial,congrArg (Value.int .i64) (wrap_i64 _ (by omega) (by omega))⟩,fun _=>fun _=>⟨xshl (by omega),rdQ_mk 1 _ ⟨rfl,rdQ_mk 8 _ (rdQ_mk 4 _ (rdQ_mk 8 _ (rdQ_mk 4 _ (rdQ_mk 8 _ (rdQ_mk 4 _ ?_)))))⟩⟩⟩⟩⟩⟩⟩⟩⟩⟩⟩⟩⟩⟩⟩⟩⟩⟩
  unfold wide_Divide_Q
  have hD:lim d 0+18446744073709551616*lim d 1+340282366920938463463374607431768211456*lim d 2+6277101735386680763835789423207666416102355444464034512896*lim d 3=d:=by
    have e:=lims d
    rw [num_vI r_d] at e
    simp only [beq_iff_eq,beq_eq_false_iff_ne] at *
    omega
  rw [hD] at N1
  have A:((x46.1+18446744073709551616*(x45.1+18446744073709551616*(x44.1+18446744073709551616*(x43.1+18446744073709551616*x42.1)))))*(x41.1+18446744073709551616*x41.2.1+340282366920938463463374607431768211456*x41.2.2.1+6277101735386680763835789423207666416102355444464034512896*x41.2.2.2)+(x46.2.1+18446744073709551616*x46.2.2.1+340282366920938463463374607431768211456*x46.2.2.2.1+6277101735386680763835789423207666416102355444464034512896*x46.2.2.2.2.1+115792089237316195423570985008687907853269984665640564039457584007913129639936*x46.2.2.2.2.2)=n*p:=by rw [←E];rw [A0];omega
  obtain ⟨G1,G2,G3⟩:=div_end A N1 h38.r0 h38.r1 hp
  have G4:=rest4 hp hq hpq hVk h38_0 h38_1 h38_2 h38_3 h38_4 G2 h38.r1
  have c0:=down_or (x:=x46.2.1) (y:=x46.2.2.1) (s:=((nrm (lim d 3):Nat):Int)) (nrm_0 _) (nrm_63 (W_lim _ _) (by assumption)) h38_0 h38_1
  rw [e1,e2] at c0
  have cw0:=down_W (y:=x46.2.2.1) hp hq hpq h38_0
  have c1:=down_or (x:=x46.2.2.1) (y:=x46.2.2.2.1) (s:=((nrm (lim d 3):Nat):Int)) (nrm_0 _) (nrm_63 (W_lim _ _) (by assumption)) h38_1 h38_2
  rw [e1,e2] at c1
  have cw1:=down_W (y:=x46.2.2.2.1) hp hq hpq h38_1
  have c2:=down_or (x:=x46.2.2.2.1) (y:=x46.2.2.2.2.1) (s:=((nrm (lim d 3):Nat):Int)) (nrm_0 _) (nrm_63 (W_lim _ _) (by assumption)) h38_2 h38_3
  rw [e1,e2] at c2
  have cw2:=down_W (y:=x46.2.2.2.2.1) hp hq hpq h38_2
  have c3:=down_or (x:=x46.2.2.2.2.1) (y:=x46.2.2.2.2.2) (s:=((nrm (lim d 3):Nat):Int)) (nrm_0 _) (nrm_63 (W_lim _ _) (by assumption)) h38_3 h38_4
  rw [e1,e2] at c3
  have cw3:=down_W (y:=x46.2.2.2.2.2) hp hq hpq h38_3
  have W0:W 0:=by unfold W;decide
  have Hq:num (.agg #[.int .u64 x46.1, .int .u64 x45.1, .int .u64 x44.1, .int .u64 x43.1, .int .u64 x42.1, .int .u64 0, .int .u64 0, .int .u64 0])=n/d:=by rw [G1,num8];omega
  have Hr:num (.agg #[.int .u64 (x46.2.1/p+x46.2.2.1*q%18446744073709551616), .int .u64 (x46.2.2.1/p+x46.2.2.2.1*q%18446744073709551616), .int .u64 (x46.2.2.2.1/p+x46.2.2.2.2.1*q%18446744073709551616), .int .u64 (x46.2.2.2.2.1/p+x46.2.2.2.2.2*q%18446744073709551616)])=n%d:=by rw [←G4,num4];omega
  have Hv:=vW_num8 (show W x46.1 by first | assumption | exact W0) (show W x45.1 by first | assumption | exact W0) (show W x44.1 by first | assumption | exact W0) (show W x43.1 by first | assumption | exact W0) (show W x42.1 by first | assumption | exact W0) (show W 0 by first | assumption | exact W0) (show W 0 by first | assumption | exact W0) (show W 0 by first | assumption | exact W0)
  have Hw:=vI_num4 cw0 cw1 cw2 cw3
  rw [Hq] at Hv
  rw [Hr] at Hw
  refine fin3 (n:=n/d) (r:=n%d) (by rw [num_vW r_n,num_vI r_d];unfold wDiv;rw [if_neg G3]) (Hq▸R8_num8 (by first | assumption | exact W0) (by first | assumption | exact W0) (by first | assumption | exact W0) (by first | assumption | exact W0) (by first | assumption | exact W0) (by first | assumption | exact W0) (by first | assumption | exact W0) (by first | assumption | exact W0)) (Hr▸R4_num4 cw0 cw1 cw2 cw3) Hv ?_
  rw [Hw,c0,c1,c2,c3]
abbrev wide_Divide_K (n d:Int) (KK:(Int×Int×Int)->Prop):Prop:=wide_Divide_A n d (fun za zh zv zu zp=>callQr Try.prog 205 za zh (Int×Int×Int) zv zp KK)
theorem wide_Divide_m (n d:Int) {KK:(Int×Int×Int)->Prop} (kont: ∀zx:Int×Int×Int,R8 zx.1->R4 zx.2.1->(zx=wDiv n d)->KK zx) (r_n:R8 n:=by assumption) (r_d:R4 d:=by assumption):wide_Divide_K n d KK:=callQr_mk (wide_Divide n d r_n r_d) (⟨wDiv _ _,wDiv_R8 (by first | exact R8_num _ | exact r_n) (R4_num _),wDiv_R4 (R4_num _),rfl⟩) fun zx hz=>by
  obtain ⟨rhz_1,hz⟩:=hz
  obtain ⟨rhz_21,hz⟩:=hz
  try simp only [num_vW (n:=n) r_n,num_vI (n:=d) r_d] at hz
  exact kont zx rhz_1 rhz_21 hz
theorem Try.xeq25 (a b:Int):PureRun Try.prog (xBin .eql 25 (vI a) (vI b)) (.bool (num (vI a)==num (vI b))):=xeq4 (e:=23) (by kernel_rfl) (by kernel_rfl) (fun w=>by kernel_rfl) (fun w=>by kernel_rfl) (by kernel_rfl) a b
theorem Try.xne25 (a b:Int):PureRun Try.prog (xBin .neq 25 (vI a) (vI b)) (.bool (num (vI a) !=num (vI b))):=xne4 (e:=23) (by kernel_rfl) (by kernel_rfl) (fun w=>by kernel_rfl) (fun w=>by kernel_rfl) (by kernel_rfl) a b
def wide_narrow_C:List Value->List Slot->Ctr:=fun vs hs=>⟨Int×Int,fun zx=> .tuple #[vI zx.1, .int .i64 zx.2],fun _=>hs,fun zx=>R4 zx.1/\zx=wNar (num (varg vs 1))⟩
abbrev wide_narrow_Q (w:Int) (zv:Value) :Prop:= ∃zx:Int×Int,(R4 zx.1/\zx=wNar (num (vW w)))/\zv= .tuple #[vI zx.1, .int .i64 zx.2]/\True
abbrev wide_narrow_A (w:Int) (zF:SF (Int×Int)):Prop:=zF #[vW w] [] (fun zx=> .tuple #[vI zx.1, .int .i64 zx.2]) (fun zx=> []) (fun zx=>(R4 zx.1/\zx=wNar (num (vW w))))
set_option maxRecDepth 100000 in
theorem wide_narrow_vc (w:Int):wide_narrow_A w (fun za zh zv zu zp=>codeW Try.prog 20 none 2000 none (bodyOf Try.f207) (.reg [.sem [.nw 0], .sem [.nw 1],S0] (.reg [S0, .sem [.rd 0],S0, .sem [.rd 0],S0,S0, .sem [.rd 0],S0,S0, .sem [.rd 0],S0,S0] (.cond (.reg [S0, .sem (wrs 4 1),S0] (.done)) (.reg [S0,S0, .sem (rds 4 0), .sem (wrs 4 1),S0] (.done)))))
    (init za zh) (finW Try.prog Try.f207 [.rd 1, .rd 1, .rd 1, .rd 1] [] (X:=Int×Int) zv zu zp))=
    (∀b1:Nat,∀b2:Nat,rdQ 4 b1 ((((IntKind.u64.wrap ((BitVec.ofInt 64 (IntKind.u64.wrap ((BitVec.ofInt 64 (IntKind.u64.wrap ((BitVec.ofInt 64 (lim w 4) ||| BitVec.ofInt 64 (lim w 5):BitVec 64).toNat:Int)) ||| BitVec.ofInt 64 (lim w 6):BitVec 64).toNat:Int)) ||| BitVec.ofInt 64 (lim w 7):BitVec 64).toNat:Int)) !=(0:Int))=true->rdQ 4 b2 (rdQ 4 b2 (wide_narrow_Q w (Value.tuple #[.agg #[uu 0,uu 0,uu 0,uu 0], .int .i64 2]))))/\(((IntKind.u64.wrap ((BitVec.ofInt 64 (IntKind.u64.wrap ((BitVec.ofInt 64 (IntKind.u64.wrap ((BitVec.ofInt 64 (lim w 4) ||| BitVec.ofInt 64 (lim w 5):BitVec 64).toNat:Int)) ||| BitVec.ofInt 64 (lim w 6):BitVec 64).toNat:Int)) ||| BitVec.ofInt 64 (lim w 7):BitVec 64).toNat:Int)) !=(0:Int))=false->rdQ 4 b1 (rdQ 4 b2 (rdQ 4 b2 (wide_narrow_Q w (Value.tuple #[vI w, .int .i64 0]))))))):=by kernel_rfl
set_option maxRecDepth 100000 in
theorem wide_narrow (w:Int) (r_w:R8 w):wide_narrow_A w (fun za zh zv zu zp=>CallT Try.prog 207 za zh (Int×Int) zv zu zp):=by
  refine call_of (c:=bodyOf Try.f207) (n:=20) (fn:=Try.f207) Try.mixed Try.func207 (by kernel_rfl) (by kernel_rfl) (by kernel_rfl) 2000 _ [.rd 1, .rd 1, .rd 1, .rd 1] [] rfl rfl (Eq.mpr (wide_narrow_vc w) ?_)
  intro b1
  intro b2
  refine rdQ_mk 4 _ ⟨fun h1=> ?_,fun h1=> ?_⟩
  · exact rdQ_mk 4 _ (rdQ_mk 4 _ (fin2 (narrow_ov r_w (by assumption)) R4_zero vI_zero))
  exact rdQ_mk 4 _ (rdQ_mk 4 _ (rdQ_mk 4 _ (fin2 (narrow_ok r_w (by assumption)).1 (narrow_ok r_w (by assumption)).2 rfl)))
abbrev wide_narrow_K (w:Int) (KK:(Int×Int)->Prop):Prop:=wide_narrow_A w (fun za zh zv zu zp=>callQr Try.prog 207 za zh (Int×Int) zv zp KK)
theorem wide_narrow_m (w:Int) {KK:(Int×Int)->Prop} (kont: ∀zx:Int×Int,R4 zx.1->(zx=wNar w)->KK zx) (r_w:R8 w:=by assumption):wide_narrow_K w KK:=callQr_mk (wide_narrow w r_w) (⟨_,wNar_R (R8_num _),rfl⟩) fun zx hz=>by
  obtain ⟨rhz_1,hz⟩:=hz
  try simp only [num_vW (n:=w) r_w] at hz
  exact kont zx rhz_1 hz
def wide_MulDiv_C:List Value->List Slot->Ctr:=fun vs hs=>⟨Int×Int,fun zx=> .tuple #[vI zx.1, .int .i64 zx.2],fun _=>hs,fun zx=>R4 zx.1/\zx=wMulDiv (num (varg vs 1)) (num (varg vs 2)) (num (varg vs 3))⟩
abbrev wide_MulDiv_Q (a b d:Int) (zv:Value) :Prop:= ∃zx:Int×Int,(R4 zx.1/\zx=wMulDiv (num (vI a)) (num (vI b)) (num (vI d)))/\zv= .tuple #[vI zx.1, .int .i64 zx.2]/\True
abbrev wide_MulDiv_A (a b d:Int) (zF:SF (Int×Int)):Prop:=zF #[vI a,vI b,vI d] [] (fun zx=> .tuple #[vI zx.1, .int .i64 zx.2]) (fun zx=> []) (fun zx=>(R4 zx.1/\zx=wMulDiv (num (vI a)) (num (vI b)) (num (vI d))))
set_option maxRecDepth 100000 in
theorem wide_MulDiv_vc (a b d:Int):wide_MulDiv_A a b d (fun za zh zv zu zp=>codeW Try.prog 28 none 2000 none (bodyOf Try.f152) (.reg [.sem [.nw 0], .sem [.nw 1], .sem [.nw 2], .sem [.nw 3],S0] (.reg [.sem (rds 4 0), .sem (rds 4 1), .callr [] wide_Product_C, .sem (rds 4 2), .callr [] wide_Divide_C,S0,S0,S0,S0, .sem [.nw 4], .sem [.nw 5], .sem (wrs 8 4), .sem (wrs 4 5),S0] (.reg [S0,S0] (.cond (.reg [S0,S0, .sem (wrs 4 3),S0] (.done)) (.reg [.sem (rds 8 4), .callr [] wide_narrow_C,S0,S0, .sem (wrs 4 3),S0] (.done))))))
    (init za zh) (finW Try.prog Try.f152 [.rd 3, .rd 3, .rd 3, .rd 3] [] (X:=Int×Int) zv zu zp))=
    (∀b1:Nat,∀b2:Nat,∀b3:Nat,∀b4:Nat,rdQ 4 b1 (rdQ 4 b2 (wide_Product_K a b (fun x5=>rdQ 4 b3 (wide_Divide_K x5 d (fun x6=> ∀b7:Nat,∀b8:Nat,rdQ 8 b7 (rdQ 4 b8 (((x6.2.2 !=(0:Int))=true->rdQ 4 b4 (rdQ 4 b4 (wide_MulDiv_Q a b d (Value.tuple #[.agg #[uu 0,uu 0,uu 0,uu 0], .int .i64 x6.2.2]))))/\((x6.2.2 !=(0:Int))=false->rdQ 8 b7 (wide_narrow_K x6.1 (fun x9=>rdQ 4 b4 (rdQ 4 b4 (wide_MulDiv_Q a b d (Value.tuple #[vI x9.1, .int .i64 x9.2])))))))))))))):=by kernel_rfl
set_option maxRecDepth 100000 in
theorem wide_MulDiv (a b d:Int) (r_a:R4 a) (r_b:R4 b) (r_d:R4 d):wide_MulDiv_A a b d (fun za zh zv zu zp=>CallT Try.prog 152 za zh (Int×Int) zv zu zp):=by
  refine call_of (c:=bodyOf Try.f152) (n:=28) (fn:=Try.f152) Try.mixed Try.func152 (by kernel_rfl) (by kernel_rfl) (by kernel_rfl) 2000 _ [.rd 3, .rd 3, .rd 3, .rd 3] [] rfl rfl (Eq.mpr (wide_MulDiv_vc a b d) ?_)
  intro b1
  intro b2
  intro b3
  intro b4
  refine rdQ_mk 4 _ (rdQ_mk 4 _ (wide_Product_m a b (fun x5 rh1_ h1=>rdQ_mk 4 _ (wide_Divide_m x5 d (fun x6 rh2_1 rh2_21 h2=>fun b7=>fun b8=>rdQ_mk 8 _ (rdQ_mk 4 _ ⟨fun h3=> ?_,fun h3=> ?_⟩))))))
  · refine rdQ_mk 4 _ (rdQ_mk 4 _ ?_)
    have hq:=(md_err (d:=d) (by assumption) (by assumption) (by assumption)).1
    exact fin2 (by rw [num_vI r_a,num_vI r_b,num_vI r_d];exact hq) R4_zero vI_zero
  refine rdQ_mk 8 _ (wide_narrow_m x6.1 (fun x9 rh4_1 h4=>rdQ_mk 4 _ (rdQ_mk 4 _ ?_)))
  have hq:=md_ok (d:=d) (by assumption) (by assumption) (by assumption) (by assumption)
  exact fin2 (by rw [num_vI r_a,num_vI r_b,num_vI r_d];exact hq) (by assumption) rfl
abbrev wide_MulDiv_K (a b d:Int) (KK:(Int×Int)->Prop):Prop:=wide_MulDiv_A a b d (fun za zh zv zu zp=>callQr Try.prog 152 za zh (Int×Int) zv zp KK)
theorem wide_MulDiv_m (a b d:Int) {KK:(Int×Int)->Prop} (kont: ∀zx:Int×Int,R4 zx.1->(zx=wMulDiv a b d)->KK zx) (r_a:R4 a:=by assumption) (r_b:R4 b:=by assumption) (r_d:R4 d:=by assumption):wide_MulDiv_K a b d KK:=callQr_mk (wide_MulDiv a b d r_a r_b r_d) (⟨_,wMulDiv_R (R4_num _) (R4_num _) (R4_num _),rfl⟩) fun zx hz=>by
  obtain ⟨rhz_1,hz⟩:=hz
  try simp only [num_vI (n:=a) r_a,num_vI (n:=b) r_b,num_vI (n:=d) r_d] at hz
  exact kont zx rhz_1 hz
theorem Try.sl173:SlT Try.prog 173 3 (.int .i64 0):=SlT.of (by kernel_rfl) (by kernel_rfl) (by kernel_rfl) (by kernel_rfl) rfl
theorem Try.agg3: ∀w,(isAgg 3).run Try.prog w= .ok false w:=fun w=>by kernel_rfl
theorem Try.size3: ∀w,(sizeOf 3).run Try.prog w= .ok 1 w:=fun w=>by kernel_rfl
def ref1_at_C:List Value->List Slot->Ctr:=fun vs hs=>⟨Int,fun zx=> .int .i64 zx,fun _=>hs,fun zx=>zx=dgt (rdv (varg vs 1) (sarg hs 0)) (ci (varg vs 2)).toNat⟩
abbrev ref1_at_Q (a:Row) (i:Int) (zv:Value) (zs0:Slot):Prop:= ∃zx:Int,(zx=dgt (rdv (sv a) (ss 3 a)) i.toNat)/\zv= .int .i64 zx/\zs0=(ss 3 a)/\True
abbrev ref1_at_A (a:Row) (i:Int) (zF:SF Int):Prop:=zF #[sv a, .int .i64 i] [(ss 3 a)] (fun zx=> .int .i64 zx) (fun zx=> [(ss 3 a)]) (fun zx=>(zx=dgt (rdv (sv a) (ss 3 a)) i.toNat))
set_option maxRecDepth 100000 in
theorem ref1_at_vc (a:Row) (i:Int):ref1_at_A a i (fun za zh zv zu zp=>codeW Try.prog 13 none 2000 none (bodyOf Try.f198) (.reg [S0] (.reg [S0,S0, .eq (f_len),S0] (.cond (.reg [S0,S0, .eq (f_idx), .specr [0] F_get,S0] (.done)) (.reg [S0] (.done)))))
    (init za zh) (finW Try.prog Try.f198 [] [0] (X:=Int) zv zu zp))=
    ((PureRun Try.prog (vS (Builtin.len_ #[173] 3 #[sv a])) (.int .i64 ((vlen (sv a):Nat):Int)))/\((decide (i<((vlen (sv a):Nat):Int)))=true->(PureRun Try.prog (vS (Instr.indexAt 173 (sv a) (.int .i64 i))) (.pointer (some ⟨(vblk (sv a)),(Int.toNat i),none⟩)))/\opQr Try.prog (vS (Instr.loadAt 3 (.pointer (some ⟨(vblk (sv a)),(Int.toNat i),none⟩)))) [(ss 3 a)] Int (fun zx=> .int .i64 zx) (fun zx=>(scells (ss 3 a))[(Int.toNat i)]? =some (.int .i64 zx)) (fun x1=>ref1_at_Q a i (Value.int .i64 x1) (ss 3 a)))/\((decide (i<((vlen (sv a):Nat):Int)))=false->ref1_at_Q a i (Value.int .i64 0) (ss 3 a))):=by kernel_rfl
set_option maxRecDepth 100000 in
theorem ref1_at (a:Row) (i:Int) (r_a:RowOK a) (hi:0<=i):ref1_at_A a i (fun za zh zv zu zp=>CallT Try.prog 198 za zh Int zv zu zp):=by
  refine call_of (c:=bodyOf Try.f198) (n:=13) (fn:=Try.f198) Try.mixed Try.func198 (by kernel_rfl) (by kernel_rfl) (by kernel_rfl) 2000 _ [] [0] rfl rfl (Eq.mpr (ref1_at_vc a i) ?_)
  have d_a:=rdv_eq a 3
  have e_a:=vlen_dg a
  refine ⟨xlen Try.sl173 3 a,⟨fun h1=> ?_,fun h1=> ?_⟩⟩
  · refine ⟨xidx Try.sl173 a .i64 i hi (by rw [←vlen_sv];exact of_decide_eq_true (by assumption)),opQr_mk (xgetR (e:=3) a 3 Try.agg3 (Int.toNat i) r_a (by rw [←vlen_dg];have:=of_decide_eq_true ‹_›;omega)) (wit_get (e:=3) a (Int.toNat i) r_a (by rw [←vlen_dg];have:=of_decide_eq_true ‹_›;omega)) fun x1 h2=> ?_⟩
    replace h2:=getR (e:=3) a (Int.toNat i) r_a (by rw [←vlen_dg];have:=of_decide_eq_true ‹_›;omega) h2
    exact ⟨_,by rw [d_a];assumption,rfl,rfl,trivial⟩
  exact ⟨0,by rw [d_a];exact (dgt_out (by have:=of_decide_eq_false ‹_›;omega)).symm,rfl,rfl,trivial⟩
abbrev ref1_at_K (a:Row) (i:Int) (KK:Int->Prop):Prop:=ref1_at_A a i (fun za zh zv zu zp=>callQr Try.prog 198 za zh Int zv zp KK)
theorem ref1_at_m (a:Row) (i:Int) {KK:Int->Prop} (kont: ∀zx:Int,(zx=dgt (dg a) i.toNat)->KK zx) (r_a:RowOK a:=by first | assumption | exact rowOK_lit _ _ (by decide)) (hi:0<=i:=by omega):ref1_at_K a i KK:=callQr_mk (ref1_at a i r_a hi) (⟨_,rfl⟩) fun zx hz=>by
  simp only [rdv_eq] at hz
  exact kont zx hz
def ref1_Trim_C:List Value->List Slot->Ctr:=fun vs hs=>⟨Row,fun zx=>sv zx,fun zx=> [(ss 3 zx)],fun zx=>RowOK zx/\ss 3 zx=(sarg hs 0)/\TrimR (rdv (varg vs 1) (sarg hs 0)) (dg zx)⟩
abbrev ref1_Trim_Q (a:Row) (zv:Value) (zs0:Slot):Prop:= ∃zx:Row,(RowOK zx/\ss 3 zx=(ss 3 a)/\TrimR (rdv (sv a) (ss 3 a)) (dg zx))/\zv=sv zx/\zs0=(ss 3 zx)/\True
abbrev ref1_Trim_A (a:Row) (zF:SF Row):Prop:=zF #[sv a] [(ss 3 a)] (fun zx=>sv zx) (fun zx=> [(ss 3 zx)]) (fun zx=>(RowOK zx/\ss 3 zx=(ss 3 a)/\TrimR (rdv (sv a) (ss 3 a)) (dg zx)))
set_option maxRecDepth 100000 in
theorem ref1_Trim_vc (a:Row):ref1_Trim_A a (fun za zh zv zu zp=>codeW Try.prog 21 none 2000 none (bodyOf Try.f199) (.reg [S0] (.reg [S0, .eq (f_len),S0] (.inv Nat (fun zx=> [(0,sv a),(3, .int .i64 ((zx:Nat):Int))]) (fun zx=> [(0,(ss 3 a))]) (fun zx=>TrimI (dg a) zx) (fun zx=>zx) (fun x1=> .caseP (fun s=>decide ((ci (s.fr 3))>(0:Int))) (.reg [S0, .gen [] (Sx.one (.bool true)),S0,S0,S0, .gen [] (fun vs=>Sx.one (.int .i64 (ci (varg vs 0) - ci (varg vs 1))) vs), .eq (f_idx), .specr [0] F_get,S0,S0] (.cond (.reg [S0, .gen [] (fun vs=>Sx.one (.int .i64 (ci (varg vs 0) - ci (varg vs 1))) vs),S0] (.done)) (.reg [S0,S0, .eq (f_take),S0] (.done)))) (.reg [S0, .gen [] (Sx.one (.bool false)),S0, .no, .no, .no, .no, .no, .no,S0] (.condF (.reg [S0,S0, .eq (f_take),S0] (.done))))))))
    (init za zh) (finW Try.prog Try.f199 [] [0] (X:=Row) zv zu zp))=
    ((PureRun Try.prog (vS (Builtin.len_ #[173] 3 #[sv a])) (.int .i64 ((vlen (sv a):Nat):Int)))/\(∃zx:Nat,(TrimI (dg a) zx)/\sv a=sv a/\Value.int .i64 ((vlen (sv a):Nat):Int)= .int .i64 ((zx:Nat):Int)/\(ss 3 a)=(ss 3 a)/\True)/\ ∀x1:Nat,∀jx1:Nat->Value,(TrimI (dg a) x1)->((decide (((x1:Nat):Int)>(0:Int)))=true->(∃_:Unit,True/\Value.bool (decide (((x1:Nat):Int)>(0:Int)))= .bool true)/\ ∀_:Unit,(True)->true=true/\true=true/\true=true/\(∃_:Unit,True/\Value.int .i64 (IntKind.i64.wrap (((x1:Nat):Int) - 1))= .int .i64 (((x1:Nat):Int) - 1))/\ ∀_:Unit,(True)->true=true/\(PureRun Try.prog (vS (Instr.indexAt 173 (sv a) (.int .i64 (((x1:Nat):Int) - 1)))) (.pointer (some ⟨(vblk (sv a)),(Int.toNat (((x1:Nat):Int) - 1)),none⟩)))/\true=true/\opQr Try.prog (vS (Instr.loadAt 3 (.pointer (some ⟨(vblk (sv a)),(Int.toNat (((x1:Nat):Int) - 1)),none⟩)))) [(ss 3 a)] Int (fun zx=> .int .i64 zx) (fun zx=>(scells (ss 3 a))[(Int.toNat (((x1:Nat):Int) - 1))]? =some (.int .i64 zx)) (fun x2=>true=true/\((x2==(0:Int))=true->(∃_:Unit,True/\Value.int .i64 (IntKind.i64.wrap (((x1:Nat):Int) - 1))= .int .i64 (((x1:Nat):Int) - 1))/\ ∀_:Unit,(True)-> ∃zy:Nat,(TrimI (dg a) zy)/\zy<x1/\sv a=sv a/\Value.int .i64 (((x1:Nat):Int) - 1)= .int .i64 ((zy:Nat):Int)/\(ss 3 a)=(ss 3 a)/\True)/\((x2==(0:Int))=false->(PureRun Try.prog (vS (Instr.sliceAt 173 (sv a) none (some (.int .i64 ((x1:Nat):Int))) none)) ((vtake (sv a) (Int.toNat ((x1:Nat):Int)))))/\ref1_Trim_Q a ((vtake (sv a) (Int.toNat ((x1:Nat):Int)))) (ss 3 a))))/\((decide (((x1:Nat):Int)>(0:Int)))=false->(∃_:Unit,True/\Value.bool (decide (((x1:Nat):Int)>(0:Int)))= .bool false)/\ ∀_:Unit,(True)->false= !true/\false= !true/\false= !true/\false= !true/\false= !true/\false= !true/\(false=false)/\(PureRun Try.prog (vS (Instr.sliceAt 173 (sv a) none (some (.int .i64 ((x1:Nat):Int))) none)) ((vtake (sv a) (Int.toNat ((x1:Nat):Int)))))/\ref1_Trim_Q a ((vtake (sv a) (Int.toNat ((x1:Nat):Int)))) (ss 3 a))):=by kernel_rfl
set_option maxRecDepth 100000 in
theorem ref1_Trim (a : Row) (r_a : RowOK a) (hl : (dg a).length <= 1073741824) : ref1_Trim_A a (fun za zh zv zu zp => CallT Try.prog 199 za zh Row zv zu zp) := by
  refine call_of (c:=bodyOf Try.f199) (n:=21) (fn:=Try.f199) Try.mixed Try.func199 (by kernel_rfl) (by kernel_rfl) (by kernel_rfl) 2000 _ [] [0] rfl rfl (Eq.mpr (ref1_Trim_vc a) ?_)
  have d_a:=rdv_eq a 3
  have e_a:=vlen_dg a
  refine ⟨xlen Try.sl173 3 a,⟨?_,fun x1 jx1 h1=> ?_⟩⟩
  · exact ⟨_,e_a▸trim_start _,rfl,rfl,rfl,trivial⟩
  have L:=h1
  have Ll:=L.le
  refine ⟨fun h2=> ?_,fun h2=> ?_⟩
  · refine ⟨⟨(),trivial,congrArg Value.bool h2⟩,fun _=>fun _=>⟨rfl,rfl,rfl,⟨(),trivial,congrArg (Value.int .i64) (wrap_i64 _ (by simp only [decide_eq_true_eq,decide_eq_false_iff_not,gt_iff_lt,ge_iff_le,beq_iff_eq,beq_eq_false_iff_ne] at *;omega) (by simp only [decide_eq_true_eq,decide_eq_false_iff_not,gt_iff_lt,ge_iff_le,beq_iff_eq,beq_eq_false_iff_ne] at *;omega))⟩,fun _=>fun _=>⟨rfl,xidx Try.sl173 a .i64 (((x1:Nat):Int) - 1) (by simp only [decide_eq_true_eq,decide_eq_false_iff_not,gt_iff_lt,ge_iff_le,beq_iff_eq,beq_eq_false_iff_ne] at *;omega) (by rw [←dg_len];simp only [decide_eq_true_eq,decide_eq_false_iff_not,gt_iff_lt,ge_iff_le,beq_iff_eq,beq_eq_false_iff_ne] at *;omega),rfl,opQr_mk (xgetR (e:=3) a 3 Try.agg3 (Int.toNat (((x1:Nat):Int) - 1)) r_a (by simp only [decide_eq_true_eq,decide_eq_false_iff_not,gt_iff_lt,ge_iff_le,beq_iff_eq,beq_eq_false_iff_ne] at *;omega)) (wit_get (e:=3) a (Int.toNat (((x1:Nat):Int) - 1)) r_a (by simp only [decide_eq_true_eq,decide_eq_false_iff_not,gt_iff_lt,ge_iff_le,beq_iff_eq,beq_eq_false_iff_ne] at *;omega)) fun x2 h3=> ?_⟩⟩⟩
    replace h3:=getR (e:=3) a (Int.toNat (((x1:Nat):Int) - 1)) r_a (by simp only [decide_eq_true_eq,decide_eq_false_iff_not,gt_iff_lt,ge_iff_le,beq_iff_eq,beq_eq_false_iff_ne] at *;omega) h3
    refine ⟨rfl,⟨fun h4=> ?_,fun h4=> ?_⟩⟩
    · refine ⟨⟨(),trivial,congrArg (Value.int .i64) (wrap_i64 _ (by simp only [decide_eq_true_eq,decide_eq_false_iff_not,gt_iff_lt,ge_iff_le,beq_iff_eq,beq_eq_false_iff_ne] at *;omega) (by simp only [decide_eq_true_eq,decide_eq_false_iff_not,gt_iff_lt,ge_iff_le,beq_iff_eq,beq_eq_false_iff_ne] at *;omega))⟩,fun _=>fun _=> ?_⟩
      have hd:dgt (dg a) (x1 - 1)=0:=by
        simp only [decide_eq_true_eq,decide_eq_false_iff_not,gt_iff_lt,ge_iff_le,beq_iff_eq,beq_eq_false_iff_ne] at *
        have e1:Int.toNat (((x1:Nat):Int) - 1)=x1 - 1:=by omega
        simp_all
      exact ⟨x1 - 1,trim_step L (by simp only [decide_eq_true_eq,decide_eq_false_iff_not,gt_iff_lt,ge_iff_le,beq_iff_eq,beq_eq_false_iff_ne] at *;omega) hd,(by simp only [decide_eq_true_eq,decide_eq_false_iff_not,gt_iff_lt,ge_iff_le,beq_iff_eq,beq_eq_false_iff_ne] at *;omega),rfl,congrArg (Value.int .i64) (by simp only [decide_eq_true_eq,decide_eq_false_iff_not,gt_iff_lt,ge_iff_le,beq_iff_eq,beq_eq_false_iff_ne] at *;omega),rfl,trivial⟩
    refine ⟨xtake Try.sl173 a .i64 ((x1:Nat):Int) (by omega) (by rw [←dg_len];omega),⟨a.take x1,⟨(r_a.take _).1,ss_take _ _ _,?_⟩,vtake_sv a _ (by rw [←dg_len];exact L.le),(ss_take _ _ _).symm,trivial⟩⟩
    rw [d_a,(r_a.take _).2]
    refine trim_end L ?_
    simp only [decide_eq_true_eq,decide_eq_false_iff_not,gt_iff_lt,ge_iff_le,beq_iff_eq,beq_eq_false_iff_ne] at *
    first | exact .inl (by omega) | exact .inr (by rename_i hne;intro h0;simp_all) | exact .inr (by intro h0;simp_all)
  refine ⟨⟨(),trivial,congrArg Value.bool h2⟩,fun _=>fun _=>⟨rfl,rfl,rfl,rfl,rfl,rfl,⟨rfl,⟨xtake Try.sl173 a .i64 ((x1:Nat):Int) (by omega) (by rw [←dg_len];omega),⟨a.take x1,⟨(r_a.take _).1,ss_take _ _ _,?_⟩,vtake_sv a _ (by rw [←dg_len];exact L.le),(ss_take _ _ _).symm,trivial⟩⟩⟩⟩⟩
  rw [d_a,(r_a.take _).2]
  refine trim_end L ?_
  simp only [decide_eq_true_eq,decide_eq_false_iff_not,gt_iff_lt,ge_iff_le,beq_iff_eq,beq_eq_false_iff_ne] at *
  first | exact .inl (by omega) | exact .inr (by rename_i hne;intro h0;simp_all) | exact .inr (by intro h0;simp_all)
abbrev ref1_Trim_K (a:Row) (KK:Row->Prop):Prop:=ref1_Trim_A a (fun za zh zv zu zp=>callQ Try.prog 199 za zh Row zv zu zp KK)
theorem ref1_Trim_m (a:Row) {KK:Row->Prop} (kont: ∀zx:Row,RowOK zx->(ss 3 zx=(ss 3 a)/\TrimR (dg a) (dg zx))->KK zx) (r_a:RowOK a:=by first | assumption | exact rowOK_lit _ _ (by decide)) (hl:(dg a).length<=1073741824:=by omega):ref1_Trim_K a KK:=callQ_mk (ref1_Trim a r_a hl) (wit_trim a (r_a)) fun zx hz=>by
  simp only [rdv_eq] at hz
  obtain ⟨rhz_,hz⟩:=hz
  exact kont zx rhz_ hz
def ref1_Cmp_C:List Value->List Slot->Ctr:=fun vs hs=>⟨Int,fun zx=> .int .i64 zx,fun _=>hs,fun zx=>zx=hCmp (nv (rdv (varg vs 1) (sarg hs 0))) (nv (rdv (varg vs 2) (sarg hs 1)))⟩
abbrev ref1_Cmp_Q (a b:Row) (zv:Value) (zs0:Slot) (zs1:Slot):Prop:= ∃zx:Int,(zx=hCmp (nv (rdv (sv a) (ss 3 a))) (nv (rdv (sv b) (ss 3 b))))/\zv= .int .i64 zx/\zs0=(ss 3 a)/\zs1=(ss 3 b)/\True
abbrev ref1_Cmp_A (a b:Row) (zF:SF Int):Prop:=zF #[sv a,sv b] [(ss 3 a),(ss 3 b)] (fun zx=> .int .i64 zx) (fun zx=> [(ss 3 a),(ss 3 b)]) (fun zx=>(zx=hCmp (nv (rdv (sv a) (ss 3 a))) (nv (rdv (sv b) (ss 3 b)))))
set_option maxRecDepth 100000 in
theorem ref1_Cmp_vc (a b:Row):ref1_Cmp_A a b (fun za zh zv zu zp=>codeW Try.prog 30 none 2000 none (bodyOf Try.f131) (.reg [S0] (.reg [S0, .eq (f_len),S0, .eq (f_len),S0, .gen [] (fun vs=>Sx.one (.int .i64 (ci (varg vs 0) - ci (varg vs 1))) vs),S0] (.inv Nat (fun zx=> [(0,sv a),(1,sv b),(5, .int .i64 (((zx:Nat):Int) - 1))]) (fun zx=> [(0,(ss 3 a)),(1,(ss 3 b))]) (fun zx=>CmpI (dg a) (dg b) zx) (fun zx=>zx) (fun x1=> .reg [S0,S0] (.cond (.reg [S0,S0, .callr [0] ref1_at_C,S0,S0, .callr [1] ref1_at_C,S0] (.cond (.reg [S0] (.done)) (.reg [S0,S0, .callr [0] ref1_at_C,S0,S0, .callr [1] ref1_at_C,S0] (.cond (.reg [S0] (.done)) (.reg [S0, .gen [] (fun vs=>Sx.one (.int .i64 (ci (varg vs 0) - ci (varg vs 1))) vs),S0] (.done)))))) (.reg [S0] (.done)))))))
    (init za zh) (finW Try.prog Try.f131 [] [0,1] (X:=Int) zv zu zp))=
    ((PureRun Try.prog (vS (Builtin.len_ #[173] 3 #[sv a])) (.int .i64 ((vlen (sv a):Nat):Int)))/\(PureRun Try.prog (vS (Builtin.len_ #[173] 3 #[sv b])) (.int .i64 ((vlen (sv b):Nat):Int)))/\(∃_:Unit,True/\Value.int .i64 (IntKind.i64.wrap ((if ((vlen (sv b):Nat):Int)>((vlen (sv a):Nat):Int) then ((vlen (sv b):Nat):Int) else ((vlen (sv a):Nat):Int)) - 1))= .int .i64 ((if ((vlen (sv b):Nat):Int)>((vlen (sv a):Nat):Int) then ((vlen (sv b):Nat):Int) else ((vlen (sv a):Nat):Int)) - 1))/\ ∀_:Unit,(True)->(∃zx:Nat,(CmpI (dg a) (dg b) zx)/\sv a=sv a/\sv b=sv b/\Value.int .i64 ((if ((vlen (sv b):Nat):Int)>((vlen (sv a):Nat):Int) then ((vlen (sv b):Nat):Int) else ((vlen (sv a):Nat):Int)) - 1)= .int .i64 (((zx:Nat):Int) - 1)/\(ss 3 a)=(ss 3 a)/\(ss 3 b)=(ss 3 b)/\True)/\ ∀x1:Nat,∀jx1:Nat->Value,(CmpI (dg a) (dg b) x1)->((decide ((((x1:Nat):Int) - 1)≥(0:Int)))=true->ref1_at_K a (((x1:Nat):Int) - 1) (fun x2=>ref1_at_K b (((x1:Nat):Int) - 1) (fun x3=>((decide (x2<x3))=true->ref1_Cmp_Q a b (Value.int .i64 (-1)) (ss 3 a) (ss 3 b))/\((decide (x2<x3))=false->ref1_at_K a (((x1:Nat):Int) - 1) (fun x4=>ref1_at_K b (((x1:Nat):Int) - 1) (fun x5=>((decide (x4>x5))=true->ref1_Cmp_Q a b (Value.int .i64 1) (ss 3 a) (ss 3 b))/\((decide (x4>x5))=false->(∃_:Unit,True/\Value.int .i64 (IntKind.i64.wrap ((((x1:Nat):Int) - 1) - 1))= .int .i64 ((((x1:Nat):Int) - 1) - 1))/\ ∀_:Unit,(True)-> ∃zy:Nat,(CmpI (dg a) (dg b) zy)/\zy<x1/\sv a=sv a/\sv b=sv b/\Value.int .i64 ((((x1:Nat):Int) - 1) - 1)= .int .i64 (((zy:Nat):Int) - 1)/\(ss 3 a)=(ss 3 a)/\(ss 3 b)=(ss 3 b)/\True)))))))/\((decide ((((x1:Nat):Int) - 1)≥(0:Int)))=false->ref1_Cmp_Q a b (Value.int .i64 0) (ss 3 a) (ss 3 b))):=by kernel_rfl
set_option maxRecDepth 100000 in
theorem ref1_Cmp (a b : Row) (r_a : RowOK a) (r_b : RowOK b) (la : (dg a).length <= 65536) (lb : (dg b).length <= 65536) : ref1_Cmp_A a b (fun za zh zv zu zp => CallT Try.prog 131 za zh Int zv zu zp) := by
  refine call_of (c:=bodyOf Try.f131) (n:=30) (fn:=Try.f131) Try.mixed Try.func131 (by kernel_rfl) (by kernel_rfl) (by kernel_rfl) 2000 _ [] [0,1] rfl rfl (Eq.mpr (ref1_Cmp_vc a b) ?_)
  have d_a:=rdv_eq a 3
  have d_b:=rdv_eq b 3
  have e_a:=vlen_dg a
  have e_b:=vlen_dg b
  refine ⟨xlen Try.sl173 3 a,xlen Try.sl173 3 b,⟨(),trivial,congrArg (Value.int .i64) (wrap_i64 _ (by rw [e_a,e_b];split<;>omega) (by rw [e_a,e_b];split<;>omega))⟩,fun _=>fun _=>⟨?_,fun x1 jx1 h1=> ?_⟩⟩
  · exact ⟨_,cmp_start _ _,rfl,rfl,congrArg (Value.int .i64) (by rw [e_a,e_b];split<;>omega),rfl,rfl,trivial⟩
  have L:=h1
  have Ll:=L.le
  refine ⟨fun h2=> ?_,fun h2=> ?_⟩
  · refine ref1_at_m a (((x1:Nat):Int) - 1) (fun x2 h3=> ?_) (hi:=by simp only [decide_eq_true_eq,decide_eq_false_iff_not,gt_iff_lt,ge_iff_le,beq_iff_eq,beq_eq_false_iff_ne] at *;omega)
    refine ref1_at_m b (((x1:Nat):Int) - 1) (fun x3 h4=> ?_) (hi:=by simp only [decide_eq_true_eq,decide_eq_false_iff_not,gt_iff_lt,ge_iff_le,beq_iff_eq,beq_eq_false_iff_ne] at *;omega)
    refine ⟨fun h5=> ?_,fun h5=> ?_⟩
    · unfold ref1_Cmp_Q
      have et:Int.toNat (((x1:Nat):Int) - 1)=x1 - 1:=by simp only [decide_eq_true_eq,decide_eq_false_iff_not,gt_iff_lt,ge_iff_le,beq_iff_eq,beq_eq_false_iff_ne] at *;omega
      have hd:dgt (dg a) (x1 - 1)<dgt (dg b) (x1 - 1):=by
        simp only [et] at *
        simp only [decide_eq_true_eq,decide_eq_false_iff_not,gt_iff_lt,ge_iff_le,beq_iff_eq,beq_eq_false_iff_ne] at *
        omega
      exact ⟨_,by rw [d_a,d_b];exact hCmp_lt (cmp_lt r_a.dig r_b.dig L (by simp only [decide_eq_true_eq,decide_eq_false_iff_not,gt_iff_lt,ge_iff_le,beq_iff_eq,beq_eq_false_iff_ne] at *;omega) hd),rfl,rfl,rfl,trivial⟩
    refine ref1_at_m a (((x1:Nat):Int) - 1) (fun x4 h6=> ?_) (hi:=by simp only [decide_eq_true_eq,decide_eq_false_iff_not,gt_iff_lt,ge_iff_le,beq_iff_eq,beq_eq_false_iff_ne] at *;omega)
    refine ref1_at_m b (((x1:Nat):Int) - 1) (fun x5 h7=> ?_) (hi:=by simp only [decide_eq_true_eq,decide_eq_false_iff_not,gt_iff_lt,ge_iff_le,beq_iff_eq,beq_eq_false_iff_ne] at *;omega)
    refine ⟨fun h8=> ?_,fun h8=> ?_⟩
    · unfold ref1_Cmp_Q
      have et:Int.toNat (((x1:Nat):Int) - 1)=x1 - 1:=by simp only [decide_eq_true_eq,decide_eq_false_iff_not,gt_iff_lt,ge_iff_le,beq_iff_eq,beq_eq_false_iff_ne] at *;omega
      have hd:dgt (dg a) (x1 - 1)>dgt (dg b) (x1 - 1):=by
        simp only [et] at *
        simp only [decide_eq_true_eq,decide_eq_false_iff_not,gt_iff_lt,ge_iff_le,beq_iff_eq,beq_eq_false_iff_ne] at *
        omega
      exact ⟨_,by rw [d_a,d_b];exact hCmp_gt (cmp_lt r_b.dig r_a.dig L.symm (by simp only [decide_eq_true_eq,decide_eq_false_iff_not,gt_iff_lt,ge_iff_le,beq_iff_eq,beq_eq_false_iff_ne] at *;omega) hd),rfl,rfl,rfl,trivial⟩
    refine ⟨⟨(),trivial,congrArg (Value.int .i64) (wrap_i64 _ (by simp only [decide_eq_true_eq,decide_eq_false_iff_not,gt_iff_lt,ge_iff_le,beq_iff_eq,beq_eq_false_iff_ne] at *;omega) (by simp only [decide_eq_true_eq,decide_eq_false_iff_not,gt_iff_lt,ge_iff_le,beq_iff_eq,beq_eq_false_iff_ne] at *;omega))⟩,fun _=>fun _=> ?_⟩
    have et:Int.toNat (((x1:Nat):Int) - 1)=x1 - 1:=by simp only [decide_eq_true_eq,decide_eq_false_iff_not,gt_iff_lt,ge_iff_le,beq_iff_eq,beq_eq_false_iff_ne] at *;omega
    have hd:dgt (dg a) (x1 - 1)=dgt (dg b) (x1 - 1):=by
      simp only [et] at *
      simp only [decide_eq_true_eq,decide_eq_false_iff_not,gt_iff_lt,ge_iff_le,beq_iff_eq,beq_eq_false_iff_ne] at *
      omega
    exact ⟨x1 - 1,cmp_step L (by simp only [decide_eq_true_eq,decide_eq_false_iff_not,gt_iff_lt,ge_iff_le,beq_iff_eq,beq_eq_false_iff_ne] at *;omega) hd,(by simp only [decide_eq_true_eq,decide_eq_false_iff_not,gt_iff_lt,ge_iff_le,beq_iff_eq,beq_eq_false_iff_ne] at *;omega),rfl,rfl,congrArg (Value.int .i64) (by simp only [decide_eq_true_eq,decide_eq_false_iff_not,gt_iff_lt,ge_iff_le,beq_iff_eq,beq_eq_false_iff_ne] at *;omega),rfl,rfl,trivial⟩
  unfold ref1_Cmp_Q
  have ez:x1=0:=(by simp only [decide_eq_true_eq,decide_eq_false_iff_not,gt_iff_lt,ge_iff_le,beq_iff_eq,beq_eq_false_iff_ne] at *;omega)
  rw [ez] at L
  exact ⟨_,by rw [d_a,d_b];exact hCmp_eq (cmp_end L),rfl,rfl,rfl,trivial⟩
abbrev ref1_Cmp_K (a b:Row) (KK:Int->Prop):Prop:=ref1_Cmp_A a b (fun za zh zv zu zp=>callQr Try.prog 131 za zh Int zv zp KK)
theorem ref1_Cmp_m (a b:Row) {KK:Int->Prop} (kont: ∀zx:Int,(zx=hCmp (nv (dg a)) (nv (dg b)))->KK zx) (r_a:RowOK a:=by first | assumption | exact rowOK_lit _ _ (by decide)) (r_b:RowOK b:=by first | assumption | exact rowOK_lit _ _ (by decide)) (la:(dg a).length<=65536:=by omega) (lb:(dg b).length<=65536:=by omega):ref1_Cmp_K a b KK:=callQr_mk (ref1_Cmp a b r_a r_b la lb) (⟨_,rfl⟩) fun zx hz=>by
  simp only [rdv_eq] at hz
  exact kont zx hz
def ref1_Add_C:List Value->List Slot->Ctr:=fun vs hs=>⟨Row,fun zx=>sv zx,fun zx=> [(sarg hs 0),(sarg hs 1),(ss 3 zx)],fun zx=>RowOK zx/\nv (dg zx)=nv (rdv (varg vs 1) (sarg hs 0))+nv (rdv (varg vs 2) (sarg hs 1))/\Canon (dg zx)⟩
abbrev ref1_Add_Q (a b:Row) (zv:Value) (zs0:Slot) (zs1:Slot) (zs2:Slot):Prop:= ∃zx:Row,(RowOK zx/\nv (dg zx)=nv (rdv (sv a) (ss 3 a))+nv (rdv (sv b) (ss 3 b))/\Canon (dg zx))/\zv=sv zx/\zs0=(ss 3 a)/\zs1=(ss 3 b)/\zs2=(ss 3 zx)/\True
abbrev ref1_Add_A (a b:Row) (zF:SF Row):Prop:=zF #[sv a,sv b] [(ss 3 a),(ss 3 b)] (fun zx=>sv zx) (fun zx=> [(ss 3 a),(ss 3 b),(ss 3 zx)]) (fun zx=>(RowOK zx/\nv (dg zx)=nv (rdv (sv a) (ss 3 a))+nv (rdv (sv b) (ss 3 b))/\Canon (dg zx)))
set_option maxRecDepth 100000 in
set_option maxHeartbeats 1000000 in
theorem ref1_Add_vc (a b:Row):ref1_Add_A a b (fun za zh zv zu zp=>codeW Try.prog 40 none 2000 none (bodyOf Try.f193) (.reg [S0] (.reg [S0] (.reg [S0] (.reg [S0] (.inv (Nat×Int×Row) (fun zx=> [(0,sv a),(1,sv b),(5,sv zx.2.2),(6, .int .i64 zx.2.1),(7, .int .i64 ((zx.1:Nat):Int))]) (fun zx=> [(0,(ss 3 a)),(1,(ss 3 b)),(20,(ss 3 zx.2.2))]) (fun zx=>AddI (dg a) (dg b) zx.1 zx.2.1 (dg zx.2.2)/\RowOK zx.2.2) (fun zx=>2*((max (dg a).length (dg b).length)+1 - zx.1)+zx.2.1.toNat) (fun x1=> .caseP (fun s=>decide ((ci (s.fr 7))<(if ((vlen (sv b):Nat):Int)>((vlen (sv a):Nat):Int) then ((vlen (sv b):Nat):Int) else ((vlen (sv a):Nat):Int)))) (.reg [S0,S0, .eq (f_len),S0, .eq (f_len),S0, .gen [] (Sx.one (.bool true)),S0, .no, .no,S0] (.condT (.reg [S0,S0, .callr [0] ref1_at_C,S0,S0, .callr [1] ref1_at_C, .gen [] (fun vs=>Sx.one (.int .i64 (ci (varg vs 0)+ci (varg vs 1))) vs),S0, .gen [] (fun vs=>Sx.one (.int .i64 (ci (varg vs 0)+ci (varg vs 1))) vs),S0] (.reg [S0,S0, .gen [] (fun vs=>Sx.one (.int .i64 (ci (varg vs 0)%65536)) vs), .sem [.nw 2], .specw [20,2] [20,2] (F_app 3),S0] (.reg [S0, .gen [] (fun vs=>Sx.one (.int .i64 (ci (varg vs 0)/65536)) vs),S0] (.reg [S0, .gen [] (fun vs=>Sx.one (.int .i64 (ci (varg vs 0)+ci (varg vs 1))) vs),S0] (.done))))))) (.reg [S0,S0, .eq (f_len),S0, .eq (f_len),S0, .gen [] (Sx.one (.bool false)),S0,S0,S0,S0] (.cond (.reg [S0,S0, .callr [0] ref1_at_C,S0,S0, .callr [1] ref1_at_C, .gen [] (fun vs=>Sx.one (.int .i64 (ci (varg vs 0)+ci (varg vs 1))) vs),S0, .gen [] (fun vs=>Sx.one (.int .i64 (ci (varg vs 0)+ci (varg vs 1))) vs),S0] (.reg [S0,S0, .gen [] (fun vs=>Sx.one (.int .i64 (ci (varg vs 0)%65536)) vs), .sem [.nw 2], .specw [20,2] [20,2] (F_app 3),S0] (.reg [S0, .gen [] (fun vs=>Sx.one (.int .i64 (ci (varg vs 0)/65536)) vs),S0] (.reg [S0, .gen [] (fun vs=>Sx.one (.int .i64 (ci (varg vs 0)+ci (varg vs 1))) vs),S0] (.done))))) (.reg [S0, .callw [20] [20] ref1_Trim_C,S0] (.done))))))))))
    (init za zh) (finW Try.prog Try.f193 [] [0,1,20] (X:=Row) zv zu zp))=
    ((∃zx:Nat×Int×Row,(AddI (dg a) (dg b) zx.1 zx.2.1 (dg zx.2.2)/\RowOK zx.2.2)/\sv a=sv a/\sv b=sv b/\Value.slice none 0 0=sv zx.2.2/\Value.int .i64 0= .int .i64 zx.2.1/\Value.int .i64 0= .int .i64 ((zx.1:Nat):Int)/\(ss 3 a)=(ss 3 a)/\(ss 3 b)=(ss 3 b)/\Slot.free=(ss 3 zx.2.2)/\True)/\ ∀x1:Nat×Int×Row,∀jx1:Nat->Value,(AddI (dg a) (dg b) x1.1 x1.2.1 (dg x1.2.2)/\RowOK x1.2.2)->((decide (((x1.1:Nat):Int)<(if ((vlen (sv b):Nat):Int)>((vlen (sv a):Nat):Int) then ((vlen (sv b):Nat):Int) else ((vlen (sv a):Nat):Int))))=true->(PureRun Try.prog (vS (Builtin.len_ #[173] 3 #[sv a])) (.int .i64 ((vlen (sv a):Nat):Int)))/\(PureRun Try.prog (vS (Builtin.len_ #[173] 3 #[sv b])) (.int .i64 ((vlen (sv b):Nat):Int)))/\(∃_:Unit,True/\Value.bool (decide (((x1.1:Nat):Int)<(if ((vlen (sv b):Nat):Int)>((vlen (sv a):Nat):Int) then ((vlen (sv b):Nat):Int) else ((vlen (sv a):Nat):Int))))= .bool true)/\ ∀_:Unit,(True)->true= !false/\true= !false/\(true=true)/\ref1_at_K a ((x1.1:Nat):Int) (fun x2=>ref1_at_K b ((x1.1:Nat):Int) (fun x3=>(∃_:Unit,True/\Value.int .i64 (IntKind.i64.wrap (x2+x3))= .int .i64 (x2+x3))/\ ∀_:Unit,(True)->(∃_:Unit,True/\Value.int .i64 (IntKind.i64.wrap ((x2+x3)+x1.2.1))= .int .i64 ((x2+x3)+x1.2.1))/\ ∀_:Unit,(True)->(∃_:Unit,True/\Value.int .i64 (Int.tmod ((x2+x3)+x1.2.1) 65536)= .int .i64 (((x2+x3)+x1.2.1)%65536))/\ ∀_:Unit,(True)-> ∀b4:Nat,opQ Try.prog (vS (Builtin.append_ #[173,173] 173 #[sv x1.2.2, .slice (some ⟨b4,0,none⟩) 1 1])) [(ss 3 x1.2.2),bk b4 #[.int .i64 (((x2+x3)+x1.2.1)%65536)] 3] Row (fun zx=>sv zx) (fun zx=> [(ss 3 zx),bk b4 #[.int .i64 (((x2+x3)+x1.2.1)%65536)] 3]) (fun zx=>vals zx=rvals (sv x1.2.2) (ss 3 x1.2.2)++ [.int .i64 (((x2+x3)+x1.2.1)%65536)]) (fun x5=>(∃_:Unit,True/\Value.int .i64 (IntKind.i64.wrap (Int.tdiv ((x2+x3)+x1.2.1) 65536))= .int .i64 (((x2+x3)+x1.2.1)/65536))/\ ∀_:Unit,(True)->(∃_:Unit,True/\Value.int .i64 (IntKind.i64.wrap (((x1.1:Nat):Int)+1))= .int .i64 (((x1.1:Nat):Int)+1))/\ ∀_:Unit,(True)-> ∃zy:Nat×Int×Row,(AddI (dg a) (dg b) zy.1 zy.2.1 (dg zy.2.2)/\RowOK zy.2.2)/\2*((max (dg a).length (dg b).length)+1 - zy.1)+zy.2.1.toNat<2*((max (dg a).length (dg b).length)+1 - x1.1)+x1.2.1.toNat/\sv a=sv a/\sv b=sv b/\sv x5=sv zy.2.2/\Value.int .i64 (((x2+x3)+x1.2.1)/65536)= .int .i64 zy.2.1/\Value.int .i64 (((x1.1:Nat):Int)+1)= .int .i64 ((zy.1:Nat):Int)/\(ss 3 a)=(ss 3 a)/\(ss 3 b)=(ss 3 b)/\(ss 3 x5)=(ss 3 zy.2.2)/\True))))/\((decide (((x1.1:Nat):Int)<(if ((vlen (sv b):Nat):Int)>((vlen (sv a):Nat):Int) then ((vlen (sv b):Nat):Int) else ((vlen (sv a):Nat):Int))))=false->(PureRun Try.prog (vS (Builtin.len_ #[173] 3 #[sv a])) (.int .i64 ((vlen (sv a):Nat):Int)))/\(PureRun Try.prog (vS (Builtin.len_ #[173] 3 #[sv b])) (.int .i64 ((vlen (sv b):Nat):Int)))/\(∃_:Unit,True/\Value.bool (decide (((x1.1:Nat):Int)<(if ((vlen (sv b):Nat):Int)>((vlen (sv a):Nat):Int) then ((vlen (sv b):Nat):Int) else ((vlen (sv a):Nat):Int))))= .bool false)/\ ∀_:Unit,(True)->false=false/\false=false/\((decide (x1.2.1>(0:Int)))=true->ref1_at_K a ((x1.1:Nat):Int) (fun x6=>ref1_at_K b ((x1.1:Nat):Int) (fun x7=>(∃_:Unit,True/\Value.int .i64 (IntKind.i64.wrap (x6+x7))= .int .i64 (x6+x7))/\ ∀_:Unit,(True)->(∃_:Unit,True/\Value.int .i64 (IntKind.i64.wrap ((x6+x7)+x1.2.1))= .int .i64 ((x6+x7)+x1.2.1))/\ ∀_:Unit,(True)->(∃_:Unit,True/\Value.int .i64 (Int.tmod ((x6+x7)+x1.2.1) 65536)= .int .i64 (((x6+x7)+x1.2.1)%65536))/\ ∀_:Unit,(True)-> ∀b8:Nat,opQ Try.prog (vS (Builtin.append_ #[173,173] 173 #[sv x1.2.2, .slice (some ⟨b8,0,none⟩) 1 1])) [(ss 3 x1.2.2),bk b8 #[.int .i64 (((x6+x7)+x1.2.1)%65536)] 3] Row (fun zx=>sv zx) (fun zx=> [(ss 3 zx),bk b8 #[.int .i64 (((x6+x7)+x1.2.1)%65536)] 3]) (fun zx=>vals zx=rvals (sv x1.2.2) (ss 3 x1.2.2)++ [.int .i64 (((x6+x7)+x1.2.1)%65536)]) (fun x9=>(∃_:Unit,True/\Value.int .i64 (IntKind.i64.wrap (Int.tdiv ((x6+x7)+x1.2.1) 65536))= .int .i64 (((x6+x7)+x1.2.1)/65536))/\ ∀_:Unit,(True)->(∃_:Unit,True/\Value.int .i64 (IntKind.i64.wrap (((x1.1:Nat):Int)+1))= .int .i64 (((x1.1:Nat):Int)+1))/\ ∀_:Unit,(True)-> ∃zy:Nat×Int×Row,(AddI (dg a) (dg b) zy.1 zy.2.1 (dg zy.2.2)/\RowOK zy.2.2)/\2*((max (dg a).length (dg b).length)+1 - zy.1)+zy.2.1.toNat<2*((max (dg a).length (dg b).length)+1 - x1.1)+x1.2.1.toNat/\sv a=sv a/\sv b=sv b/\sv x9=sv zy.2.2/\Value.int .i64 (((x6+x7)+x1.2.1)/65536)= .int .i64 zy.2.1/\Value.int .i64 (((x1.1:Nat):Int)+1)= .int .i64 ((zy.1:Nat):Int)/\(ss 3 a)=(ss 3 a)/\(ss 3 b)=(ss 3 b)/\(ss 3 x9)=(ss 3 zy.2.2)/\True))))/\((decide (x1.2.1>(0:Int)))=false->ref1_Trim_K x1.2.2 (fun x10=>ref1_Add_Q a b (sv x10) (ss 3 a) (ss 3 b) (ss 3 x10))))):=by kernel_rfl
set_option maxRecDepth 100000 in
set_option maxHeartbeats 1000000 in
theorem ref1_Add (a b:Row) (r_a:RowOK a) (r_b:RowOK b) (la:(dg a).length<=65536) (lb:(dg b).length<=65536):ref1_Add_A a b (fun za zh zv zu zp=>CallT Try.prog 193 za zh Row zv zu zp):=by
  refine call_of (c:=bodyOf Try.f193) (n:=40) (fn:=Try.f193) Try.mixed Try.func193 (by kernel_rfl) (by kernel_rfl) (by kernel_rfl) 2000 _ [] [0,1,20] rfl rfl (Eq.mpr (ref1_Add_vc a b) ?_)
  have d_a:=rdv_eq a 3
  have d_b:=rdv_eq b 3
  have e_a:=vlen_dg a
  have e_b:=vlen_dg b
  have hm:(if (((vlen (sv b):Nat):Int))>(((vlen (sv a):Nat):Int)) then (((vlen (sv b):Nat):Int)) else (((vlen (sv a):Nat):Int)))=(((max (dg a).length (dg b).length):Nat):Int):=by rw [e_a,e_b];split<;>omega
  refine ⟨?_,fun x1 jx1 h1=> ?_⟩
  · exact ⟨(0,0,Row.nil),⟨add_start _ _,RowOK.nil⟩,rfl,rfl,rfl,rfl,rfl,rfl,rfl,rfl,trivial⟩
  obtain ⟨L,ok⟩:=h1
  have l1:=L.le;have l2:=L.len;have l3:=L.c0;have l4:=L.c1;have l5:=L.ends
  have da:=r_a.dig.dgt (Int.toNat ((x1.1:Nat):Int))
  have db:=r_b.dig.dgt (Int.toNat ((x1.1:Nat):Int))
  refine ⟨fun h2=> ?_,fun h2=> ?_⟩
  · refine ⟨xlen Try.sl173 3 a,xlen Try.sl173 3 b,⟨(),trivial,congrArg Value.bool h2⟩,fun _=>fun _=>⟨rfl,rfl,⟨rfl,?_⟩⟩⟩
    try rw [hm] at *
    refine ref1_at_m a ((x1.1:Nat):Int) (fun x2 h3=>ref1_at_m b ((x1.1:Nat):Int) (fun x3 h4=>⟨⟨(),trivial,congrArg (Value.int .i64) (wrap_i64 _ (by omega) (by omega))⟩,fun _=>fun _=>⟨⟨(),trivial,congrArg (Value.int .i64) (wrap_i64 _ (by omega) (by omega))⟩,fun _=>fun _=>⟨⟨(),trivial,congrArg (Value.int .i64) (tmod_nat (by omega))⟩,fun _=>fun _=>fun b4=>opQ_mk (xappendR Try.sl173 173 x1.2.2 (by omega) b4 1 (.int .i64 (((x2+x3)+x1.2.1)%65536)) rfl) (wit_app _) fun x5 h5=> ?_⟩⟩⟩))
    rw [rvals_eq] at h5
    refine ⟨⟨(),trivial,congrArg (Value.int .i64) (quo_i64 (by omega) (by omega))⟩,fun _=>fun _=>⟨⟨(),trivial,congrArg (Value.int .i64) (wrap_i64 _ (by omega) (by omega))⟩,fun _=>fun _=> ?_⟩⟩
    have hx:((x2+x3)+x1.2.1)=dgt (dg a) x1.1+dgt (dg b) x1.1+x1.2.1:=by
      simp only [Int.toNat_natCast] at *
      omega
    have hlt:(x1.1<(max (dg a).length (dg b).length))∨0<x1.2.1:=by
      simp only [decide_eq_true_eq,decide_eq_false_iff_not,gt_iff_lt,ge_iff_le,beq_iff_eq,beq_eq_false_iff_ne] at *
      omega
    obtain ⟨q1,q2,q3⟩:=add_step r_a.dig r_b.dig L hx hlt
    have q:=RowOK.snoc ok q2 q3 (by assumption)
    have hmu:=q1.c1
    exact ⟨(x1.1+1,((x2+x3)+x1.2.1)/65536,x5),⟨q.2▸q1,q.1⟩,by dsimp only;omega,rfl,rfl,rfl,rfl,congrArg (Value.int .i64) (by dsimp only;omega),rfl,rfl,rfl,trivial⟩
  refine ⟨xlen Try.sl173 3 a,xlen Try.sl173 3 b,⟨(),trivial,congrArg Value.bool h2⟩,fun _=>fun _=>⟨rfl,rfl,⟨fun h6=> ?_,fun h6=> ?_⟩⟩⟩
  · try rw [hm] at *
    refine ref1_at_m a ((x1.1:Nat):Int) (fun x6 h7=>ref1_at_m b ((x1.1:Nat):Int) (fun x7 h8=>⟨⟨(),trivial,congrArg (Value.int .i64) (wrap_i64 _ (by omega) (by omega))⟩,fun _=>fun _=>⟨⟨(),trivial,congrArg (Value.int .i64) (wrap_i64 _ (by omega) (by omega))⟩,fun _=>fun _=>⟨⟨(),trivial,congrArg (Value.int .i64) (tmod_nat (by omega))⟩,fun _=>fun _=>fun b8=>opQ_mk (xappendR Try.sl173 173 x1.2.2 (by omega) b8 1 (.int .i64 (((x6+x7)+x1.2.1)%65536)) rfl) (wit_app _) fun x9 h9=> ?_⟩⟩⟩))
    rw [rvals_eq] at h9
    refine ⟨⟨(),trivial,congrArg (Value.int .i64) (quo_i64 (by omega) (by omega))⟩,fun _=>fun _=>⟨⟨(),trivial,congrArg (Value.int .i64) (wrap_i64 _ (by omega) (by omega))⟩,fun _=>fun _=> ?_⟩⟩
    have hx:((x6+x7)+x1.2.1)=dgt (dg a) x1.1+dgt (dg b) x1.1+x1.2.1:=by
      simp only [Int.toNat_natCast] at *
      omega
    have hlt:(x1.1<(max (dg a).length (dg b).length))∨0<x1.2.1:=by
      simp only [decide_eq_true_eq,decide_eq_false_iff_not,gt_iff_lt,ge_iff_le,beq_iff_eq,beq_eq_false_iff_ne] at *
      omega
    obtain ⟨q1,q2,q3⟩:=add_step r_a.dig r_b.dig L hx hlt
    have q:=RowOK.snoc ok q2 q3 (by assumption)
    have hmu:=q1.c1
    exact ⟨(x1.1+1,((x6+x7)+x1.2.1)/65536,x9),⟨q.2▸q1,q.1⟩,by dsimp only;omega,rfl,rfl,rfl,rfl,congrArg (Value.int .i64) (by dsimp only;omega),rfl,rfl,rfl,trivial⟩
  refine ref1_Trim_m x1.2.2 (fun x10 rh10_ h10=> ?_)
  unfold ref1_Add_Q
  have T:TrimR (dg x1.2.2) (dg x10):=by first | exact And.right (by assumption) | assumption
  have hi:(max (dg a).length (dg b).length)<=x1.1:=by
    simp only [decide_eq_true_eq,decide_eq_false_iff_not,gt_iff_lt,ge_iff_le,beq_iff_eq,beq_eq_false_iff_ne] at *
    omega
  have hc:x1.2.1<=0:=by
    simp only [decide_eq_true_eq,decide_eq_false_iff_not,gt_iff_lt,ge_iff_le,beq_iff_eq,beq_eq_false_iff_ne] at *
    omega
  exact ⟨_,⟨by assumption,by rw [d_a,d_b];exact T.eq.trans (add_end L hi hc),T.canon⟩,rfl,rfl,rfl,rfl,trivial⟩
abbrev ref1_Add_K (a b:Row) (KK:Row->Prop):Prop:=ref1_Add_A a b (fun za zh zv zu zp=>callQ Try.prog 193 za zh Row zv zu zp KK)
theorem ref1_Add_m (a b:Row) {KK:Row->Prop} (kont: ∀zx:Row,RowOK zx->(nv (dg zx)=nv (dg a)+nv (dg b)/\Canon (dg zx))->KK zx) (r_a:RowOK a:=by first | assumption | exact rowOK_lit _ _ (by decide)) (r_b:RowOK b:=by first | assumption | exact rowOK_lit _ _ (by decide)) (la:(dg a).length<=65536:=by omega) (lb:(dg b).length<=65536:=by omega):ref1_Add_K a b KK:=callQ_mk (ref1_Add a b r_a r_b la lb) (wit_row (by rw [rdv_eq a,rdv_eq b];exact Int.add_nonneg (nv_nonneg (RowOK.dig (r_a))) (nv_nonneg (RowOK.dig (r_b))))) fun zx hz=>by
  simp only [rdv_eq] at hz
  obtain ⟨rhz_,hz⟩:=hz
  exact kont zx rhz_ hz
def ref1_Add2_C:List Value->List Slot->Ctr:=fun vs hs=>⟨Row,fun zx=>sv zx,fun zx=> [(sarg hs 0),(ss 3 zx)],fun zx=>RowOK zx/\nv (dg zx)=nv (rdv (varg vs 1) (sarg hs 0))+nv (rdv (varg vs 1) (sarg hs 0))/\Canon (dg zx)⟩
abbrev ref1_Add2_Q (a:Row) (zv:Value) (zs0:Slot) (zs1:Slot):Prop:= ∃zx:Row,(RowOK zx/\nv (dg zx)=nv (rdv (sv a) (ss 3 a))+nv (rdv (sv a) (ss 3 a))/\Canon (dg zx))/\zv=sv zx/\zs0=(ss 3 a)/\zs1=(ss 3 zx)/\True
abbrev ref1_Add2_A (a:Row) (zF:SF Row):Prop:=zF #[sv a,sv a] [(ss 3 a)] (fun zx=>sv zx) (fun zx=> [(ss 3 a),(ss 3 zx)]) (fun zx=>(RowOK zx/\nv (dg zx)=nv (rdv (sv a) (ss 3 a))+nv (rdv (sv a) (ss 3 a))/\Canon (dg zx)))
set_option maxRecDepth 100000 in
set_option maxHeartbeats 1000000 in
theorem ref1_Add2_vc (a:Row):ref1_Add2_A a (fun za zh zv zu zp=>codeW Try.prog 40 none 2000 none (bodyOf Try.f193) (.reg [S0] (.reg [S0] (.reg [S0] (.reg [S0] (.inv (Nat×Int×Row) (fun zx=> [(0,sv a),(1,sv a),(5,sv zx.2.2),(6, .int .i64 zx.2.1),(7, .int .i64 ((zx.1:Nat):Int))]) (fun zx=> [(0,(ss 3 a)),(20,(ss 3 zx.2.2))]) (fun zx=>AddI (dg a) (dg a) zx.1 zx.2.1 (dg zx.2.2)/\RowOK zx.2.2) (fun zx=>2*((max (dg a).length (dg a).length)+1 - zx.1)+zx.2.1.toNat) (fun x1=> .caseP (fun s=>decide ((ci (s.fr 7))<(if ((vlen (sv a):Nat):Int)>((vlen (sv a):Nat):Int) then ((vlen (sv a):Nat):Int) else ((vlen (sv a):Nat):Int)))) (.reg [S0,S0, .eq (f_len),S0, .eq (f_len),S0, .gen [] (Sx.one (.bool true)),S0, .no, .no,S0] (.condT (.reg [S0,S0, .callr [0] ref1_at_C,S0,S0, .callr [0] ref1_at_C, .gen [] (fun vs=>Sx.one (.int .i64 (ci (varg vs 0)+ci (varg vs 1))) vs),S0, .gen [] (fun vs=>Sx.one (.int .i64 (ci (varg vs 0)+ci (varg vs 1))) vs),S0] (.reg [S0,S0, .gen [] (fun vs=>Sx.one (.int .i64 (ci (varg vs 0)%65536)) vs), .sem [.nw 1], .specw [20,1] [20,1] (F_app 3),S0] (.reg [S0, .gen [] (fun vs=>Sx.one (.int .i64 (ci (varg vs 0)/65536)) vs),S0] (.reg [S0, .gen [] (fun vs=>Sx.one (.int .i64 (ci (varg vs 0)+ci (varg vs 1))) vs),S0] (.done))))))) (.reg [S0,S0, .eq (f_len),S0, .eq (f_len),S0, .gen [] (Sx.one (.bool false)),S0,S0,S0,S0] (.cond (.reg [S0,S0, .callr [0] ref1_at_C,S0,S0, .callr [0] ref1_at_C, .gen [] (fun vs=>Sx.one (.int .i64 (ci (varg vs 0)+ci (varg vs 1))) vs),S0, .gen [] (fun vs=>Sx.one (.int .i64 (ci (varg vs 0)+ci (varg vs 1))) vs),S0] (.reg [S0,S0, .gen [] (fun vs=>Sx.one (.int .i64 (ci (varg vs 0)%65536)) vs), .sem [.nw 1], .specw [20,1] [20,1] (F_app 3),S0] (.reg [S0, .gen [] (fun vs=>Sx.one (.int .i64 (ci (varg vs 0)/65536)) vs),S0] (.reg [S0, .gen [] (fun vs=>Sx.one (.int .i64 (ci (varg vs 0)+ci (varg vs 1))) vs),S0] (.done))))) (.reg [S0, .callw [20] [20] ref1_Trim_C,S0] (.done))))))))))
    (init za zh) (finW Try.prog Try.f193 [] [0,20] (X:=Row) zv zu zp))=
    ((∃zx:Nat×Int×Row,(AddI (dg a) (dg a) zx.1 zx.2.1 (dg zx.2.2)/\RowOK zx.2.2)/\sv a=sv a/\sv a=sv a/\Value.slice none 0 0=sv zx.2.2/\Value.int .i64 0= .int .i64 zx.2.1/\Value.int .i64 0= .int .i64 ((zx.1:Nat):Int)/\(ss 3 a)=(ss 3 a)/\Slot.free=(ss 3 zx.2.2)/\True)/\ ∀x1:Nat×Int×Row,∀jx1:Nat->Value,(AddI (dg a) (dg a) x1.1 x1.2.1 (dg x1.2.2)/\RowOK x1.2.2)->((decide (((x1.1:Nat):Int)<(if ((vlen (sv a):Nat):Int)>((vlen (sv a):Nat):Int) then ((vlen (sv a):Nat):Int) else ((vlen (sv a):Nat):Int))))=true->(PureRun Try.prog (vS (Builtin.len_ #[173] 3 #[sv a])) (.int .i64 ((vlen (sv a):Nat):Int)))/\(PureRun Try.prog (vS (Builtin.len_ #[173] 3 #[sv a])) (.int .i64 ((vlen (sv a):Nat):Int)))/\(∃_:Unit,True/\Value.bool (decide (((x1.1:Nat):Int)<(if ((vlen (sv a):Nat):Int)>((vlen (sv a):Nat):Int) then ((vlen (sv a):Nat):Int) else ((vlen (sv a):Nat):Int))))= .bool true)/\ ∀_:Unit,(True)->true= !false/\true= !false/\(true=true)/\ref1_at_K a ((x1.1:Nat):Int) (fun x2=>ref1_at_K a ((x1.1:Nat):Int) (fun x3=>(∃_:Unit,True/\Value.int .i64 (IntKind.i64.wrap (x2+x3))= .int .i64 (x2+x3))/\ ∀_:Unit,(True)->(∃_:Unit,True/\Value.int .i64 (IntKind.i64.wrap ((x2+x3)+x1.2.1))= .int .i64 ((x2+x3)+x1.2.1))/\ ∀_:Unit,(True)->(∃_:Unit,True/\Value.int .i64 (Int.tmod ((x2+x3)+x1.2.1) 65536)= .int .i64 (((x2+x3)+x1.2.1)%65536))/\ ∀_:Unit,(True)-> ∀b4:Nat,opQ Try.prog (vS (Builtin.append_ #[173,173] 173 #[sv x1.2.2, .slice (some ⟨b4,0,none⟩) 1 1])) [(ss 3 x1.2.2),bk b4 #[.int .i64 (((x2+x3)+x1.2.1)%65536)] 3] Row (fun zx=>sv zx) (fun zx=> [(ss 3 zx),bk b4 #[.int .i64 (((x2+x3)+x1.2.1)%65536)] 3]) (fun zx=>vals zx=rvals (sv x1.2.2) (ss 3 x1.2.2)++ [.int .i64 (((x2+x3)+x1.2.1)%65536)]) (fun x5=>(∃_:Unit,True/\Value.int .i64 (IntKind.i64.wrap (Int.tdiv ((x2+x3)+x1.2.1) 65536))= .int .i64 (((x2+x3)+x1.2.1)/65536))/\ ∀_:Unit,(True)->(∃_:Unit,True/\Value.int .i64 (IntKind.i64.wrap (((x1.1:Nat):Int)+1))= .int .i64 (((x1.1:Nat):Int)+1))/\ ∀_:Unit,(True)-> ∃zy:Nat×Int×Row,(AddI (dg a) (dg a) zy.1 zy.2.1 (dg zy.2.2)/\RowOK zy.2.2)/\2*((max (dg a).length (dg a).length)+1 - zy.1)+zy.2.1.toNat<2*((max (dg a).length (dg a).length)+1 - x1.1)+x1.2.1.toNat/\sv a=sv a/\sv a=sv a/\sv x5=sv zy.2.2/\Value.int .i64 (((x2+x3)+x1.2.1)/65536)= .int .i64 zy.2.1/\Value.int .i64 (((x1.1:Nat):Int)+1)= .int .i64 ((zy.1:Nat):Int)/\(ss 3 a)=(ss 3 a)/\(ss 3 x5)=(ss 3 zy.2.2)/\True))))/\((decide (((x1.1:Nat):Int)<(if ((vlen (sv a):Nat):Int)>((vlen (sv a):Nat):Int) then ((vlen (sv a):Nat):Int) else ((vlen (sv a):Nat):Int))))=false->(PureRun Try.prog (vS (Builtin.len_ #[173] 3 #[sv a])) (.int .i64 ((vlen (sv a):Nat):Int)))/\(PureRun Try.prog (vS (Builtin.len_ #[173] 3 #[sv a])) (.int .i64 ((vlen (sv a):Nat):Int)))/\(∃_:Unit,True/\Value.bool (decide (((x1.1:Nat):Int)<(if ((vlen (sv a):Nat):Int)>((vlen (sv a):Nat):Int) then ((vlen (sv a):Nat):Int) else ((vlen (sv a):Nat):Int))))= .bool false)/\ ∀_:Unit,(True)->false=false/\false=false/\((decide (x1.2.1>(0:Int)))=true->ref1_at_K a ((x1.1:Nat):Int) (fun x6=>ref1_at_K a ((x1.1:Nat):Int) (fun x7=>(∃_:Unit,True/\Value.int .i64 (IntKind.i64.wrap (x6+x7))= .int .i64 (x6+x7))/\ ∀_:Unit,(True)->(∃_:Unit,True/\Value.int .i64 (IntKind.i64.wrap ((x6+x7)+x1.2.1))= .int .i64 ((x6+x7)+x1.2.1))/\ ∀_:Unit,(True)->(∃_:Unit,True/\Value.int .i64 (Int.tmod ((x6+x7)+x1.2.1) 65536)= .int .i64 (((x6+x7)+x1.2.1)%65536))/\ ∀_:Unit,(True)-> ∀b8:Nat,opQ Try.prog (vS (Builtin.append_ #[173,173] 173 #[sv x1.2.2, .slice (some ⟨b8,0,none⟩) 1 1])) [(ss 3 x1.2.2),bk b8 #[.int .i64 (((x6+x7)+x1.2.1)%65536)] 3] Row (fun zx=>sv zx) (fun zx=> [(ss 3 zx),bk b8 #[.int .i64 (((x6+x7)+x1.2.1)%65536)] 3]) (fun zx=>vals zx=rvals (sv x1.2.2) (ss 3 x1.2.2)++ [.int .i64 (((x6+x7)+x1.2.1)%65536)]) (fun x9=>(∃_:Unit,True/\Value.int .i64 (IntKind.i64.wrap (Int.tdiv ((x6+x7)+x1.2.1) 65536))= .int .i64 (((x6+x7)+x1.2.1)/65536))/\ ∀_:Unit,(True)->(∃_:Unit,True/\Value.int .i64 (IntKind.i64.wrap (((x1.1:Nat):Int)+1))= .int .i64 (((x1.1:Nat):Int)+1))/\ ∀_:Unit,(True)-> ∃zy:Nat×Int×Row,(AddI (dg a) (dg a) zy.1 zy.2.1 (dg zy.2.2)/\RowOK zy.2.2)/\2*((max (dg a).length (dg a).length)+1 - zy.1)+zy.2.1.toNat<2*((max (dg a).length (dg a).length)+1 - x1.1)+x1.2.1.toNat/\sv a=sv a/\sv a=sv a/\sv x9=sv zy.2.2/\Value.int .i64 (((x6+x7)+x1.2.1)/65536)= .int .i64 zy.2.1/\Value.int .i64 (((x1.1:Nat):Int)+1)= .int .i64 ((zy.1:Nat):Int)/\(ss 3 a)=(ss 3 a)/\(ss 3 x9)=(ss 3 zy.2.2)/\True))))/\((decide (x1.2.1>(0:Int)))=false->ref1_Trim_K x1.2.2 (fun x10=>ref1_Add2_Q a (sv x10) (ss 3 a) (ss 3 x10))))):=by kernel_rfl
set_option maxRecDepth 100000 in
set_option maxHeartbeats 1000000 in
theorem ref1_Add2 (a:Row) (r_a:RowOK a) (la:(dg a).length<=65536):ref1_Add2_A a (fun za zh zv zu zp=>CallT Try.prog 193 za zh Row zv zu zp):=by
  refine call_of (c:=bodyOf Try.f193) (n:=40) (fn:=Try.f193) Try.mixed Try.func193 (by kernel_rfl) (by kernel_rfl) (by kernel_rfl) 2000 _ [] [0,20] rfl rfl (Eq.mpr (ref1_Add2_vc a) ?_)
  have d_a:=rdv_eq a 3
  have e_a:=vlen_dg a
  have hm:(if (((vlen (sv a):Nat):Int))>(((vlen (sv a):Nat):Int)) then (((vlen (sv a):Nat):Int)) else (((vlen (sv a):Nat):Int)))=(((max (dg a).length (dg a).length):Nat):Int):=by rw [e_a];split<;>omega
  refine ⟨?_,fun x1 jx1 h1=> ?_⟩
  · exact ⟨(0,0,Row.nil),⟨add_start _ _,RowOK.nil⟩,rfl,rfl,rfl,rfl,rfl,rfl,rfl,trivial⟩
  obtain ⟨L,ok⟩:=h1
  have l1:=L.le;have l2:=L.len;have l3:=L.c0;have l4:=L.c1;have l5:=L.ends
  have da:=r_a.dig.dgt (Int.toNat ((x1.1:Nat):Int))
  have db:=r_a.dig.dgt (Int.toNat ((x1.1:Nat):Int))
  refine ⟨fun h2=> ?_,fun h2=> ?_⟩
  · refine ⟨xlen Try.sl173 3 a,xlen Try.sl173 3 a,⟨(),trivial,congrArg Value.bool h2⟩,fun _=>fun _=>⟨rfl,rfl,⟨rfl,?_⟩⟩⟩
    try rw [hm] at *
    refine ref1_at_m a ((x1.1:Nat):Int) (fun x2 h3=>ref1_at_m a ((x1.1:Nat):Int) (fun x3 h4=>⟨⟨(),trivial,congrArg (Value.int .i64) (wrap_i64 _ (by omega) (by omega))⟩,fun _=>fun _=>⟨⟨(),trivial,congrArg (Value.int .i64) (wrap_i64 _ (by omega) (by omega))⟩,fun _=>fun _=>⟨⟨(),trivial,congrArg (Value.int .i64) (tmod_nat (by omega))⟩,fun _=>fun _=>fun b4=>opQ_mk (xappendR Try.sl173 173 x1.2.2 (by omega) b4 1 (.int .i64 (((x2+x3)+x1.2.1)%65536)) rfl) (wit_app _) fun x5 h5=> ?_⟩⟩⟩))
    rw [rvals_eq] at h5
    refine ⟨⟨(),trivial,congrArg (Value.int .i64) (quo_i64 (by omega) (by omega))⟩,fun _=>fun _=>⟨⟨(),trivial,congrArg (Value.int .i64) (wrap_i64 _ (by omega) (by omega))⟩,fun _=>fun _=> ?_⟩⟩
    have hx:((x2+x3)+x1.2.1)=dgt (dg a) x1.1+dgt (dg a) x1.1+x1.2.1:=by
      simp only [Int.toNat_natCast] at *
      omega
    have hlt:(x1.1<(max (dg a).length (dg a).length))∨0<x1.2.1:=by
      simp only [decide_eq_true_eq,decide_eq_false_iff_not,gt_iff_lt,ge_iff_le,beq_iff_eq,beq_eq_false_iff_ne] at *
      omega
    obtain ⟨q1,q2,q3⟩:=add_step r_a.dig r_a.dig L hx hlt
    have q:=RowOK.snoc ok q2 q3 (by assumption)
    have hmu:=q1.c1
    exact ⟨(x1.1+1,((x2+x3)+x1.2.1)/65536,x5),⟨q.2▸q1,q.1⟩,by dsimp only;omega,rfl,rfl,rfl,rfl,congrArg (Value.int .i64) (by dsimp only;omega),rfl,rfl,trivial⟩
  refine ⟨xlen Try.sl173 3 a,xlen Try.sl173 3 a,⟨(),trivial,congrArg Value.bool h2⟩,fun _=>fun _=>⟨rfl,rfl,⟨fun h6=> ?_,fun h6=> ?_⟩⟩⟩
  · try rw [hm] at *
    refine ref1_at_m a ((x1.1:Nat):Int) (fun x6 h7=>ref1_at_m a ((x1.1:Nat):Int) (fun x7 h8=>⟨⟨(),trivial,congrArg (Value.int .i64) (wrap_i64 _ (by omega) (by omega))⟩,fun _=>fun _=>⟨⟨(),trivial,congrArg (Value.int .i64) (wrap_i64 _ (by omega) (by omega))⟩,fun _=>fun _=>⟨⟨(),trivial,congrArg (Value.int .i64) (tmod_nat (by omega))⟩,fun _=>fun _=>fun b8=>opQ_mk (xappendR Try.sl173 173 x1.2.2 (by omega) b8 1 (.int .i64 (((x6+x7)+x1.2.1)%65536)) rfl) (wit_app _) fun x9 h9=> ?_⟩⟩⟩))
    rw [rvals_eq] at h9
    refine ⟨⟨(),trivial,congrArg (Value.int .i64) (quo_i64 (by omega) (by omega))⟩,fun _=>fun _=>⟨⟨(),trivial,congrArg (Value.int .i64) (wrap_i64 _ (by omega) (by omega))⟩,fun _=>fun _=> ?_⟩⟩
    have hx:((x6+x7)+x1.2.1)=dgt (dg a) x1.1+dgt (dg a) x1.1+x1.2.1:=by
      simp only [Int.toNat_natCast] at *
      omega
    have hlt:(x1.1<(max (dg a).length (dg a).length))∨0<x1.2.1:=by
      simp only [decide_eq_true_eq,decide_eq_false_iff_not,gt_iff_lt,ge_iff_le,beq_iff_eq,beq_eq_false_iff_ne] at *
      omega
    obtain ⟨q1,q2,q3⟩:=add_step r_a.dig r_a.dig L hx hlt
    have q:=RowOK.snoc ok q2 q3 (by assumption)
    have hmu:=q1.c1
    exact ⟨(x1.1+1,((x6+x7)+x1.2.1)/65536,x9),⟨q.2▸q1,q.1⟩,by dsimp only;omega,rfl,rfl,rfl,rfl,congrArg (Value.int .i64) (by dsimp only;omega),rfl,rfl,trivial⟩
  refine ref1_Trim_m x1.2.2 (fun x10 rh10_ h10=> ?_)
  unfold ref1_Add2_Q
  have T:TrimR (dg x1.2.2) (dg x10):=by first | exact And.right (by assumption) | assumption
  have hi:(max (dg a).length (dg a).length)<=x1.1:=by
    simp only [decide_eq_true_eq,decide_eq_false_iff_not,gt_iff_lt,ge_iff_le,beq_iff_eq,beq_eq_false_iff_ne] at *
    omega
  have hc:x1.2.1<=0:=by
    simp only [decide_eq_true_eq,decide_eq_false_iff_not,gt_iff_lt,ge_iff_le,beq_iff_eq,beq_eq_false_iff_ne] at *
    omega
  exact ⟨_,⟨by assumption,by rw [d_a];exact T.eq.trans (add_end L hi hc),T.canon⟩,rfl,rfl,rfl,trivial⟩
abbrev ref1_Add2_K (a:Row) (KK:Row->Prop):Prop:=ref1_Add2_A a (fun za zh zv zu zp=>callQ Try.prog 193 za zh Row zv zu zp KK)
theorem ref1_Add2_m (a:Row) {KK:Row->Prop} (kont: ∀zx:Row,RowOK zx->(nv (dg zx)=nv (dg a)+nv (dg a)/\Canon (dg zx))->KK zx) (r_a:RowOK a:=by first | assumption | exact rowOK_lit _ _ (by decide)) (la:(dg a).length<=65536:=by omega):ref1_Add2_K a KK:=callQ_mk (ref1_Add2 a r_a la) (wit_row (by rw [rdv_eq a];exact Int.add_nonneg (nv_nonneg (RowOK.dig (r_a))) (nv_nonneg (RowOK.dig (r_a))))) fun zx hz=>by
  simp only [rdv_eq] at hz
  obtain ⟨rhz_,hz⟩:=hz
  exact kont zx rhz_ hz
def ref1_Sub_C:List Value->List Slot->Ctr:=fun vs hs=>⟨Row,fun zx=>sv zx,fun zx=> [(sarg hs 0),(sarg hs 1),(ss 3 zx)],fun zx=>RowOK zx/\nv (dg zx)=nv (rdv (varg vs 1) (sarg hs 0)) - nv (rdv (varg vs 2) (sarg hs 1))/\Canon (dg zx)⟩
abbrev ref1_Sub_Q (a b:Row) (zv:Value) (zs0:Slot) (zs1:Slot) (zs2:Slot):Prop:= ∃zx:Row,(RowOK zx/\nv (dg zx)=nv (rdv (sv a) (ss 3 a)) - nv (rdv (sv b) (ss 3 b))/\Canon (dg zx))/\zv=sv zx/\zs0=(ss 3 a)/\zs1=(ss 3 b)/\zs2=(ss 3 zx)/\True
abbrev ref1_Sub_A (a b:Row) (zF:SF Row):Prop:=zF #[sv a,sv b] [(ss 3 a),(ss 3 b)] (fun zx=>sv zx) (fun zx=> [(ss 3 a),(ss 3 b),(ss 3 zx)]) (fun zx=>(RowOK zx/\nv (dg zx)=nv (rdv (sv a) (ss 3 a)) - nv (rdv (sv b) (ss 3 b))/\Canon (dg zx)))
set_option maxRecDepth 100000 in
set_option maxHeartbeats 1000000 in
theorem ref1_Sub_vc (a b:Row):ref1_Sub_A a b (fun za zh zv zu zp=>codeW Try.prog 35 none 2000 none (bodyOf Try.f204) (.reg [S0] (.reg [S0] (.reg [S0] (.reg [S0] (.inv (Nat×Int×Row) (fun zx=> [(0,sv a),(1,sv b),(5,sv zx.2.2),(6, .int .i64 zx.2.1),(7, .int .i64 ((zx.1:Nat):Int))]) (fun zx=> [(0,(ss 3 a)),(1,(ss 3 b)),(20,(ss 3 zx.2.2))]) (fun zx=>SubI (dg a) (dg b) zx.1 zx.2.1 (dg zx.2.2)/\RowOK zx.2.2) (fun zx=>(dg a).length - zx.1) (fun x1=> .reg [S0,S0, .eq (f_len),S0] (.cond (.reg [S0,S0, .eq (f_idx), .specr [0] F_get,S0,S0, .callr [1] ref1_at_C, .gen [] (fun vs=>Sx.one (.int .i64 (ci (varg vs 0) - ci (varg vs 1))) vs),S0, .gen [] (fun vs=>Sx.one (.int .i64 (ci (varg vs 0) - ci (varg vs 1))) vs),S0] (.reg [S0] (.reg [S0,S0] (.cond (.reg [S0, .gen [] (fun vs=>Sx.one (.int .i64 (ci (varg vs 0)+ci (varg vs 1))) vs),S0] (.reg [S0] (.reg [S0,S0, .sem [.nw 2], .specw [20,2] [20,2] (F_app 3),S0] (.reg [S0, .gen [] (fun vs=>Sx.one (.int .i64 (ci (varg vs 0)+ci (varg vs 1))) vs),S0] (.done))))) (.reg [S0,S0, .sem [.nw 2], .specw [20,2] [20,2] (F_app 3),S0] (.reg [S0, .gen [] (fun vs=>Sx.one (.int .i64 (ci (varg vs 0)+ci (varg vs 1))) vs),S0] (.done))))))) (.reg [S0, .callw [20] [20] ref1_Trim_C,S0] (.done)))))))))
    (init za zh) (finW Try.prog Try.f204 [] [0,1,20] (X:=Row) zv zu zp))=
    ((∃zx:Nat×Int×Row,(SubI (dg a) (dg b) zx.1 zx.2.1 (dg zx.2.2)/\RowOK zx.2.2)/\sv a=sv a/\sv b=sv b/\Value.slice none 0 0=sv zx.2.2/\Value.int .i64 0= .int .i64 zx.2.1/\Value.int .i64 0= .int .i64 ((zx.1:Nat):Int)/\(ss 3 a)=(ss 3 a)/\(ss 3 b)=(ss 3 b)/\Slot.free=(ss 3 zx.2.2)/\True)/\ ∀x1:Nat×Int×Row,∀jx1:Nat->Value,(SubI (dg a) (dg b) x1.1 x1.2.1 (dg x1.2.2)/\RowOK x1.2.2)->(PureRun Try.prog (vS (Builtin.len_ #[173] 3 #[sv a])) (.int .i64 ((vlen (sv a):Nat):Int)))/\((decide (((x1.1:Nat):Int)<((vlen (sv a):Nat):Int)))=true->(PureRun Try.prog (vS (Instr.indexAt 173 (sv a) (.int .i64 ((x1.1:Nat):Int)))) (.pointer (some ⟨(vblk (sv a)),(Int.toNat ((x1.1:Nat):Int)),none⟩)))/\opQr Try.prog (vS (Instr.loadAt 3 (.pointer (some ⟨(vblk (sv a)),(Int.toNat ((x1.1:Nat):Int)),none⟩)))) [(ss 3 a)] Int (fun zx=> .int .i64 zx) (fun zx=>(scells (ss 3 a))[(Int.toNat ((x1.1:Nat):Int))]? =some (.int .i64 zx)) (fun x2=>ref1_at_K b ((x1.1:Nat):Int) (fun x3=>(∃_:Unit,True/\Value.int .i64 (IntKind.i64.wrap (x2 - x3))= .int .i64 (x2 - x3))/\ ∀_:Unit,(True)->(∃_:Unit,True/\Value.int .i64 (IntKind.i64.wrap ((x2 - x3) - x1.2.1))= .int .i64 ((x2 - x3) - x1.2.1))/\ ∀_:Unit,(True)->((decide (((x2 - x3) - x1.2.1)<(0:Int)))=true->(∃_:Unit,True/\Value.int .i64 (IntKind.i64.wrap (((x2 - x3) - x1.2.1)+65536))= .int .i64 (((x2 - x3) - x1.2.1)+65536))/\ ∀_:Unit,(True)-> ∀b4:Nat,opQ Try.prog (vS (Builtin.append_ #[173,173] 173 #[sv x1.2.2, .slice (some ⟨b4,0,none⟩) 1 1])) [(ss 3 x1.2.2),bk b4 #[.int .i64 (((x2 - x3) - x1.2.1)+65536)] 3] Row (fun zx=>sv zx) (fun zx=> [(ss 3 zx),bk b4 #[.int .i64 (((x2 - x3) - x1.2.1)+65536)] 3]) (fun zx=>vals zx=rvals (sv x1.2.2) (ss 3 x1.2.2)++ [.int .i64 (((x2 - x3) - x1.2.1)+65536)]) (fun x5=>(∃_:Unit,True/\Value.int .i64 (IntKind.i64.wrap (((x1.1:Nat):Int)+1))= .int .i64 (((x1.1:Nat):Int)+1))/\ ∀_:Unit,(True)-> ∃zy:Nat×Int×Row,(SubI (dg a) (dg b) zy.1 zy.2.1 (dg zy.2.2)/\RowOK zy.2.2)/\(dg a).length - zy.1<(dg a).length - x1.1/\sv a=sv a/\sv b=sv b/\sv x5=sv zy.2.2/\Value.int .i64 1= .int .i64 zy.2.1/\Value.int .i64 (((x1.1:Nat):Int)+1)= .int .i64 ((zy.1:Nat):Int)/\(ss 3 a)=(ss 3 a)/\(ss 3 b)=(ss 3 b)/\(ss 3 x5)=(ss 3 zy.2.2)/\True))/\((decide (((x2 - x3) - x1.2.1)<(0:Int)))=false-> ∀b6:Nat,opQ Try.prog (vS (Builtin.append_ #[173,173] 173 #[sv x1.2.2, .slice (some ⟨b6,0,none⟩) 1 1])) [(ss 3 x1.2.2),bk b6 #[.int .i64 ((x2 - x3) - x1.2.1)] 3] Row (fun zx=>sv zx) (fun zx=> [(ss 3 zx),bk b6 #[.int .i64 ((x2 - x3) - x1.2.1)] 3]) (fun zx=>vals zx=rvals (sv x1.2.2) (ss 3 x1.2.2)++ [.int .i64 ((x2 - x3) - x1.2.1)]) (fun x7=>(∃_:Unit,True/\Value.int .i64 (IntKind.i64.wrap (((x1.1:Nat):Int)+1))= .int .i64 (((x1.1:Nat):Int)+1))/\ ∀_:Unit,(True)-> ∃zy:Nat×Int×Row,(SubI (dg a) (dg b) zy.1 zy.2.1 (dg zy.2.2)/\RowOK zy.2.2)/\(dg a).length - zy.1<(dg a).length - x1.1/\sv a=sv a/\sv b=sv b/\sv x7=sv zy.2.2/\Value.int .i64 0= .int .i64 zy.2.1/\Value.int .i64 (((x1.1:Nat):Int)+1)= .int .i64 ((zy.1:Nat):Int)/\(ss 3 a)=(ss 3 a)/\(ss 3 b)=(ss 3 b)/\(ss 3 x7)=(ss 3 zy.2.2)/\True)))))/\((decide (((x1.1:Nat):Int)<((vlen (sv a):Nat):Int)))=false->ref1_Trim_K x1.2.2 (fun x8=>ref1_Sub_Q a b (sv x8) (ss 3 a) (ss 3 b) (ss 3 x8)))):=by kernel_rfl
set_option maxRecDepth 100000 in
set_option maxHeartbeats 1000000 in
theorem ref1_Sub (a b:Row) (r_a:RowOK a) (r_b:RowOK b) (la:(dg a).length<=65536) (lb:(dg b).length<=65536) (hle:nv (dg b)<=nv (dg a)):ref1_Sub_A a b (fun za zh zv zu zp=>CallT Try.prog 204 za zh Row zv zu zp):=by
  refine call_of (c:=bodyOf Try.f204) (n:=35) (fn:=Try.f204) Try.mixed Try.func204 (by kernel_rfl) (by kernel_rfl) (by kernel_rfl) 2000 _ [] [0,1,20] rfl rfl (Eq.mpr (ref1_Sub_vc a b) ?_)
  have d_a:=rdv_eq a 3
  have d_b:=rdv_eq b 3
  have e_a:=vlen_dg a
  have e_b:=vlen_dg b
  refine ⟨?_,fun x1 jx1 h1=> ?_⟩
  · exact ⟨(0,0,Row.nil),⟨sub_start _ _,RowOK.nil⟩,rfl,rfl,rfl,rfl,rfl,rfl,rfl,rfl,trivial⟩
  obtain ⟨L,ok⟩:=h1
  have l1:=L.le;have l2:=L.len;have l3:=L.c0;have l4:=L.c1
  have da:=r_a.dig.dgt (Int.toNat ((x1.1:Nat):Int))
  have db:=r_b.dig.dgt (Int.toNat ((x1.1:Nat):Int))
  refine ⟨xlen Try.sl173 3 a,⟨fun h2=> ?_,fun h2=> ?_⟩⟩
  · refine ⟨xidx Try.sl173 a .i64 ((x1.1:Nat):Int) (by omega) (by rw [←dg_len];simp only [decide_eq_true_eq,decide_eq_false_iff_not,gt_iff_lt,ge_iff_le,beq_iff_eq,beq_eq_false_iff_ne] at *;omega),opQr_mk (xgetR (e:=3) a 3 Try.agg3 (Int.toNat ((x1.1:Nat):Int)) r_a (by simp only [decide_eq_true_eq,decide_eq_false_iff_not,gt_iff_lt,ge_iff_le,beq_iff_eq,beq_eq_false_iff_ne] at *;omega)) (wit_get (e:=3) a (Int.toNat ((x1.1:Nat):Int)) r_a (by simp only [decide_eq_true_eq,decide_eq_false_iff_not,gt_iff_lt,ge_iff_le,beq_iff_eq,beq_eq_false_iff_ne] at *;omega)) fun x2 h3=> ?_⟩
    replace h3:=getR (e:=3) a (Int.toNat ((x1.1:Nat):Int)) r_a (by simp only [decide_eq_true_eq,decide_eq_false_iff_not,gt_iff_lt,ge_iff_le,beq_iff_eq,beq_eq_false_iff_ne] at *;omega) h3
    refine ref1_at_m b ((x1.1:Nat):Int) (fun x3 h4=>⟨⟨(),trivial,congrArg (Value.int .i64) (wrap_i64 _ (by omega) (by omega))⟩,fun _=>fun _=>⟨⟨(),trivial,congrArg (Value.int .i64) (wrap_i64 _ (by omega) (by omega))⟩,fun _=>fun _=>⟨fun h5=> ?_,fun h5=> ?_⟩⟩⟩)
    · refine ⟨⟨(),trivial,congrArg (Value.int .i64) (wrap_i64 _ (by omega) (by omega))⟩,fun _=>fun _=>fun b4=>opQ_mk (xappendR Try.sl173 173 x1.2.2 (by omega) b4 1 (.int .i64 (((x2 - x3) - x1.2.1)+65536)) rfl) (wit_app _) fun x5 h6=> ?_⟩
      rw [rvals_eq] at h6
      refine ⟨⟨(),trivial,congrArg (Value.int .i64) (wrap_i64 _ (by omega) (by omega))⟩,fun _=>fun _=> ?_⟩
      have q1:=sub_go (x:=(((x2 - x3) - x1.2.1)+65536)) (c' :=1) r_a.dig r_b.dig L (by simp only [decide_eq_true_eq,decide_eq_false_iff_not,gt_iff_lt,ge_iff_le,beq_iff_eq,beq_eq_false_iff_ne] at *;omega) (by simp only [Int.toNat_natCast] at *;simp only [decide_eq_true_eq,decide_eq_false_iff_not,gt_iff_lt,ge_iff_le,beq_iff_eq,beq_eq_false_iff_ne] at *;omega) (by simp only [decide_eq_true_eq,decide_eq_false_iff_not,gt_iff_lt,ge_iff_le,beq_iff_eq,beq_eq_false_iff_ne] at *;omega) (by simp only [decide_eq_true_eq,decide_eq_false_iff_not,gt_iff_lt,ge_iff_le,beq_iff_eq,beq_eq_false_iff_ne] at *;omega) (by decide) (by decide)
      have q:=RowOK.snoc ok (x:=(((x2 - x3) - x1.2.1)+65536)) (by simp only [decide_eq_true_eq,decide_eq_false_iff_not,gt_iff_lt,ge_iff_le,beq_iff_eq,beq_eq_false_iff_ne] at *;omega) (by simp only [decide_eq_true_eq,decide_eq_false_iff_not,gt_iff_lt,ge_iff_le,beq_iff_eq,beq_eq_false_iff_ne] at *;omega) (by assumption)
      exact ⟨(x1.1+1,1,x5),⟨q.2▸q1,q.1⟩,by dsimp only;simp only [decide_eq_true_eq,decide_eq_false_iff_not,gt_iff_lt,ge_iff_le,beq_iff_eq,beq_eq_false_iff_ne] at *;omega,rfl,rfl,rfl,rfl,congrArg (Value.int .i64) (by dsimp only;omega),rfl,rfl,rfl,trivial⟩
    intro b6
    refine opQ_mk (xappendR Try.sl173 173 x1.2.2 (by omega) b6 1 (.int .i64 ((x2 - x3) - x1.2.1)) rfl) (wit_app _) fun x7 h7=> ?_
    rw [rvals_eq] at h7
    refine ⟨⟨(),trivial,congrArg (Value.int .i64) (wrap_i64 _ (by omega) (by omega))⟩,fun _=>fun _=> ?_⟩
    have q1:=sub_go (x:=((x2 - x3) - x1.2.1)) (c' :=0) r_a.dig r_b.dig L (by simp only [decide_eq_true_eq,decide_eq_false_iff_not,gt_iff_lt,ge_iff_le,beq_iff_eq,beq_eq_false_iff_ne] at *;omega) (by simp only [Int.toNat_natCast] at *;simp only [decide_eq_true_eq,decide_eq_false_iff_not,gt_iff_lt,ge_iff_le,beq_iff_eq,beq_eq_false_iff_ne] at *;omega) (by simp only [decide_eq_true_eq,decide_eq_false_iff_not,gt_iff_lt,ge_iff_le,beq_iff_eq,beq_eq_false_iff_ne] at *;omega) (by simp only [decide_eq_true_eq,decide_eq_false_iff_not,gt_iff_lt,ge_iff_le,beq_iff_eq,beq_eq_false_iff_ne] at *;omega) (by decide) (by decide)
    have q:=RowOK.snoc ok (x:=((x2 - x3) - x1.2.1)) (by simp only [decide_eq_true_eq,decide_eq_false_iff_not,gt_iff_lt,ge_iff_le,beq_iff_eq,beq_eq_false_iff_ne] at *;omega) (by simp only [decide_eq_true_eq,decide_eq_false_iff_not,gt_iff_lt,ge_iff_le,beq_iff_eq,beq_eq_false_iff_ne] at *;omega) (by assumption)
    exact ⟨(x1.1+1,0,x7),⟨q.2▸q1,q.1⟩,by dsimp only;simp only [decide_eq_true_eq,decide_eq_false_iff_not,gt_iff_lt,ge_iff_le,beq_iff_eq,beq_eq_false_iff_ne] at *;omega,rfl,rfl,rfl,rfl,congrArg (Value.int .i64) (by dsimp only;omega),rfl,rfl,rfl,trivial⟩
  refine ref1_Trim_m x1.2.2 (fun x8 rh8_ h8=> ?_)
  unfold ref1_Sub_Q
  have T:TrimR (dg x1.2.2) (dg x8):=by first | exact And.right (by assumption) | assumption
  have hi:x1.1=(dg a).length:=by
    simp only [decide_eq_true_eq,decide_eq_false_iff_not,gt_iff_lt,ge_iff_le,beq_iff_eq,beq_eq_false_iff_ne] at *
    omega
  rw [hi] at L
  exact ⟨_,⟨by assumption,by rw [d_a,d_b];exact T.eq.trans (sub_end r_a.dig r_b.dig ok.dig L hle),T.canon⟩,rfl,rfl,rfl,rfl,trivial⟩
abbrev ref1_Sub_K (a b:Row) (KK:Row->Prop):Prop:=ref1_Sub_A a b (fun za zh zv zu zp=>callQ Try.prog 204 za zh Row zv zu zp KK)
theorem ref1_Sub_m (a b:Row) {KK:Row->Prop} (kont: ∀zx:Row,RowOK zx->(nv (dg zx)=nv (dg a) - nv (dg b)/\Canon (dg zx))->KK zx) (r_a:RowOK a:=by first | assumption | exact rowOK_lit _ _ (by decide)) (r_b:RowOK b:=by first | assumption | exact rowOK_lit _ _ (by decide)) (la:(dg a).length<=65536:=by omega) (lb:(dg b).length<=65536:=by omega) (hle:nv (dg b)<=nv (dg a):=by omega):ref1_Sub_K a b KK:=callQ_mk (ref1_Sub a b r_a r_b la lb hle) (wit_row (by rw [rdv_eq a,rdv_eq b];omega)) fun zx hz=>by
  simp only [rdv_eq] at hz
  obtain ⟨rhz_,hz⟩:=hz
  exact kont zx rhz_ hz
def ref1_Mul_C:List Value->List Slot->Ctr:=fun vs hs=>⟨Row,fun zx=>sv zx,fun zx=> [(sarg hs 0),(sarg hs 1),(ss 3 zx)],fun zx=>RowOK zx/\nv (dg zx)=nv (rdv (varg vs 1) (sarg hs 0))*nv (rdv (varg vs 2) (sarg hs 1))/\Canon (dg zx)⟩
abbrev ref1_Mul_Q (a b:Row) (zv:Value) (zs0:Slot) (zs1:Slot) (zs2:Slot):Prop:= ∃zx:Row,(RowOK zx/\nv (dg zx)=nv (rdv (sv a) (ss 3 a))*nv (rdv (sv b) (ss 3 b))/\Canon (dg zx))/\zv=sv zx/\zs0=(ss 3 a)/\zs1=(ss 3 b)/\zs2=(ss 3 zx)/\True
abbrev ref1_Mul_A (a b:Row) (zF:SF Row):Prop:=zF #[sv a,sv b] [(ss 3 a),(ss 3 b)] (fun zx=>sv zx) (fun zx=> [(ss 3 a),(ss 3 b),(ss 3 zx)]) (fun zx=>(RowOK zx/\nv (dg zx)=nv (rdv (sv a) (ss 3 a))*nv (rdv (sv b) (ss 3 b))/\Canon (dg zx)))
set_option maxRecDepth 100000 in
set_option maxHeartbeats 2000000 in
theorem ref1_Mul_vc (a b:Row):ref1_Mul_A a b (fun za zh zv zu zp=>codeW Try.prog 72 none 2000 none (bodyOf Try.f203) (.reg [S0] (.reg [S0, .eq (f_len),S0, .eq (f_len), .gen [] (fun vs=>Sx.one (.int .i64 (ci (varg vs 0)+ci (varg vs 1))) vs), .specw [] [20] (F_make 3 (.int .i64 0)),S0] (.reg [S0, .eq (f_len),S0] (.inv (Nat×Row) (fun zx=> [(0,sv a),(1,sv b),(5,sv zx.2),(17, .int .i64 ((vlen (sv a):Nat):Int)),(18, .int .i64 ((zx.1:Nat):Int))]) (fun zx=> [(0,(ss 3 a)),(1,(ss 3 b)),(20,(ss 3 zx.2))]) (fun zx=>MulO (dg a) (dg b) zx.1 (dg zx.2)/\RowOK zx.2) (fun zx=>(dg a).length - zx.1) (fun x2=> .reg [S0] (.cond (.reg [S0,S0] (.reg [S0] (.reg [S0, .eq (f_len),S0] (.inv (Nat×Int×Row) (fun zx=> [(0,sv a),(1,sv b),(5,sv zx.2.2),(6, .int .i64 ((x2.1:Nat):Int)),(7, .int .i64 zx.2.1),(22, .int .i64 ((vlen (sv b):Nat):Int)),(23, .int .i64 ((zx.1:Nat):Int)),(17, .int .i64 ((vlen (sv a):Nat):Int)),(18, .int .i64 ((x2.1:Nat):Int))]) (fun zx=> [(0,(ss 3 a)),(1,(ss 3 b)),(20,(ss 3 zx.2.2))]) (fun zx=>MulN (dg a) (dg b) x2.1 zx.1 zx.2.1 (dg zx.2.2)/\RowOK zx.2.2) (fun zx=>(dg b).length - zx.1) (fun x3=> .reg [S0] (.cond (.reg [S0,S0] (.reg [S0,S0,S0, .gen [] (fun vs=>Sx.one (.int .i64 (ci (varg vs 0)+ci (varg vs 1))) vs), .eq (f_idx), .specr [20] F_get,S0,S0, .eq (f_idx), .specr [0] F_get,S0,S0, .eq (f_idx), .specr [1] F_get, .gen [] (fun vs=>Sx.one (.int .i64 (ci (varg vs 0)*ci (varg vs 1))) vs), .gen [] (fun vs=>Sx.one (.int .i64 (ci (varg vs 0)+ci (varg vs 1))) vs),S0, .gen [] (fun vs=>Sx.one (.int .i64 (ci (varg vs 0)+ci (varg vs 1))) vs),S0] (.reg [S0,S0,S0, .gen [] (fun vs=>Sx.one (.int .i64 (ci (varg vs 0)+ci (varg vs 1))) vs),S0, .gen [] (fun vs=>Sx.one (.int .i64 (ci (varg vs 0)%65536)) vs), .eq (f_idx), .specw [20] [20] F_put] (.reg [S0, .gen [] (fun vs=>Sx.one (.int .i64 (ci (varg vs 0)/65536)) vs),S0] (.reg [.gen [] (fun vs=>Sx.one (.int .i64 (ci (varg vs 0)+ci (varg vs 1))) vs),S0] (.done)))))) (.reg [S0,S0,S0, .eq (f_len), .gen [] (fun vs=>Sx.one (.int .i64 (ci (varg vs 0)+ci (varg vs 1))) vs),S0,S0,S0, .eq (f_len), .gen [] (fun vs=>Sx.one (.int .i64 (ci (varg vs 0)+ci (varg vs 1))) vs), .eq (f_idx), .specr [20] F_get,S0, .gen [] (fun vs=>Sx.one (.int .i64 (ci (varg vs 0)+ci (varg vs 1))) vs), .eq (f_idx), .specw [20] [20] F_put] (.reg [.gen [] (fun vs=>Sx.one (.int .i64 (ci (varg vs 0)+ci (varg vs 1))) vs),S0] (.done))))))))) (.reg [S0, .callw [20] [20] ref1_Trim_C,S0] (.done))))))))
    (init za zh) (finW Try.prog Try.f203 [] [0,1,20] (X:=Row) zv zu zp))=
    ((PureRun Try.prog (vS (Builtin.len_ #[173] 3 #[sv a])) (.int .i64 ((vlen (sv a):Nat):Int)))/\(PureRun Try.prog (vS (Builtin.len_ #[173] 3 #[sv b])) (.int .i64 ((vlen (sv b):Nat):Int)))/\(∃_:Unit,True/\Value.int .i64 (IntKind.i64.wrap (((vlen (sv a):Nat):Int)+((vlen (sv b):Nat):Int)))= .int .i64 (((vlen (sv a):Nat):Int)+((vlen (sv b):Nat):Int)))/\ ∀_:Unit,(True)->opQ Try.prog (vS (Instr.makeSlice 173 (.int .i64 (((vlen (sv a):Nat):Int)+((vlen (sv b):Nat):Int))) (.int .i64 (((vlen (sv a):Nat):Int)+((vlen (sv b):Nat):Int))))) [] Row (fun zx=>sv zx) (fun zx=> [(ss 3 zx)]) (fun zx=>vals zx=List.replicate (Int.toNat (((vlen (sv a):Nat):Int)+((vlen (sv b):Nat):Int))) (.int .i64 0)) (fun x1=>(PureRun Try.prog (vS (Builtin.len_ #[173] 3 #[sv a])) (.int .i64 ((vlen (sv a):Nat):Int)))/\(∃zx:Nat×Row,(MulO (dg a) (dg b) zx.1 (dg zx.2)/\RowOK zx.2)/\sv a=sv a/\sv b=sv b/\sv x1=sv zx.2/\Value.int .i64 ((vlen (sv a):Nat):Int)= .int .i64 ((vlen (sv a):Nat):Int)/\Value.int .i64 0= .int .i64 ((zx.1:Nat):Int)/\(ss 3 a)=(ss 3 a)/\(ss 3 b)=(ss 3 b)/\(ss 3 x1)=(ss 3 zx.2)/\True)/\ ∀x2:Nat×Row,∀jx2:Nat->Value,(MulO (dg a) (dg b) x2.1 (dg x2.2)/\RowOK x2.2)->((decide (((x2.1:Nat):Int)<((vlen (sv a):Nat):Int)))=true->(PureRun Try.prog (vS (Builtin.len_ #[173] 3 #[sv b])) (.int .i64 ((vlen (sv b):Nat):Int)))/\(∃zx:Nat×Int×Row,(MulN (dg a) (dg b) x2.1 zx.1 zx.2.1 (dg zx.2.2)/\RowOK zx.2.2)/\sv a=sv a/\sv b=sv b/\sv x2.2=sv zx.2.2/\Value.int .i64 ((x2.1:Nat):Int)= .int .i64 ((x2.1:Nat):Int)/\Value.int .i64 0= .int .i64 zx.2.1/\Value.int .i64 ((vlen (sv b):Nat):Int)= .int .i64 ((vlen (sv b):Nat):Int)/\Value.int .i64 0= .int .i64 ((zx.1:Nat):Int)/\Value.int .i64 ((vlen (sv a):Nat):Int)= .int .i64 ((vlen (sv a):Nat):Int)/\Value.int .i64 ((x2.1:Nat):Int)= .int .i64 ((x2.1:Nat):Int)/\(ss 3 a)=(ss 3 a)/\(ss 3 b)=(ss 3 b)/\(ss 3 x2.2)=(ss 3 zx.2.2)/\True)/\ ∀x3:Nat×Int×Row,∀jx3:Nat->Value,(MulN (dg a) (dg b) x2.1 x3.1 x3.2.1 (dg x3.2.2)/\RowOK x3.2.2)->((decide (((x3.1:Nat):Int)<((vlen (sv b):Nat):Int)))=true->(∃_:Unit,True/\Value.int .i64 (IntKind.i64.wrap (((x2.1:Nat):Int)+((x3.1:Nat):Int)))= .int .i64 (((x2.1:Nat):Int)+((x3.1:Nat):Int)))/\ ∀_:Unit,(True)->(PureRun Try.prog (vS (Instr.indexAt 173 (sv x3.2.2) (.int .i64 (((x2.1:Nat):Int)+((x3.1:Nat):Int))))) (.pointer (some ⟨(vblk (sv x3.2.2)),(Int.toNat (((x2.1:Nat):Int)+((x3.1:Nat):Int))),none⟩)))/\opQr Try.prog (vS (Instr.loadAt 3 (.pointer (some ⟨(vblk (sv x3.2.2)),(Int.toNat (((x2.1:Nat):Int)+((x3.1:Nat):Int))),none⟩)))) [(ss 3 x3.2.2)] Int (fun zx=> .int .i64 zx) (fun zx=>(scells (ss 3 x3.2.2))[(Int.toNat (((x2.1:Nat):Int)+((x3.1:Nat):Int)))]? =some (.int .i64 zx)) (fun x4=>(PureRun Try.prog (vS (Instr.indexAt 173 (sv a) (.int .i64 ((x2.1:Nat):Int)))) (.pointer (some ⟨(vblk (sv a)),(Int.toNat ((x2.1:Nat):Int)),none⟩)))/\opQr Try.prog (vS (Instr.loadAt 3 (.pointer (some ⟨(vblk (sv a)),(Int.toNat ((x2.1:Nat):Int)),none⟩)))) [(ss 3 a)] Int (fun zx=> .int .i64 zx) (fun zx=>(scells (ss 3 a))[(Int.toNat ((x2.1:Nat):Int))]? =some (.int .i64 zx)) (fun x5=>(PureRun Try.prog (vS (Instr.indexAt 173 (sv b) (.int .i64 ((x3.1:Nat):Int)))) (.pointer (some ⟨(vblk (sv b)),(Int.toNat ((x3.1:Nat):Int)),none⟩)))/\opQr Try.prog (vS (Instr.loadAt 3 (.pointer (some ⟨(vblk (sv b)),(Int.toNat ((x3.1:Nat):Int)),none⟩)))) [(ss 3 b)] Int (fun zx=> .int .i64 zx) (fun zx=>(scells (ss 3 b))[(Int.toNat ((x3.1:Nat):Int))]? =some (.int .i64 zx)) (fun x6=>(∃_:Unit,True/\Value.int .i64 (IntKind.i64.wrap (x5*x6))= .int .i64 (x5*x6))/\ ∀_:Unit,(True)->(∃_:Unit,True/\Value.int .i64 (IntKind.i64.wrap (x4+(x5*x6)))= .int .i64 (x4+(x5*x6)))/\ ∀_:Unit,(True)->(∃_:Unit,True/\Value.int .i64 (IntKind.i64.wrap ((x4+(x5*x6))+x3.2.1))= .int .i64 ((x4+(x5*x6))+x3.2.1))/\ ∀_:Unit,(True)->(∃_:Unit,True/\Value.int .i64 (IntKind.i64.wrap (((x2.1:Nat):Int)+((x3.1:Nat):Int)))= .int .i64 (((x2.1:Nat):Int)+((x3.1:Nat):Int)))/\ ∀_:Unit,(True)->(∃_:Unit,True/\Value.int .i64 (Int.tmod ((x4+(x5*x6))+x3.2.1) 65536)= .int .i64 (((x4+(x5*x6))+x3.2.1)%65536))/\ ∀_:Unit,(True)->(PureRun Try.prog (vS (Instr.indexAt 173 (sv x3.2.2) (.int .i64 (((x2.1:Nat):Int)+((x3.1:Nat):Int))))) (.pointer (some ⟨(vblk (sv x3.2.2)),(Int.toNat (((x2.1:Nat):Int)+((x3.1:Nat):Int))),none⟩)))/\opQ Try.prog (skS (Instr.storeAt 3 (.pointer (some ⟨(vblk (sv x3.2.2)),(Int.toNat (((x2.1:Nat):Int)+((x3.1:Nat):Int))),none⟩)) (.int .i64 (((x4+(x5*x6))+x3.2.1)%65536)))) [(ss 3 x3.2.2)] Unit (fun _=> .tuple #[]) (fun _=> [(sset (ss 3 x3.2.2) (Int.toNat (((x2.1:Nat):Int)+((x3.1:Nat):Int))) (.int .i64 (((x4+(x5*x6))+x3.2.1)%65536)))]) (fun _=>True) (fun _=>(∃_:Unit,True/\Value.int .i64 (IntKind.i64.wrap (Int.tdiv ((x4+(x5*x6))+x3.2.1) 65536))= .int .i64 (((x4+(x5*x6))+x3.2.1)/65536))/\ ∀_:Unit,(True)->(∃_:Unit,True/\Value.int .i64 (IntKind.i64.wrap (((x3.1:Nat):Int)+1))= .int .i64 (((x3.1:Nat):Int)+1))/\ ∀_:Unit,(True)-> ∃zy:Nat×Int×Row,(MulN (dg a) (dg b) x2.1 zy.1 zy.2.1 (dg zy.2.2)/\RowOK zy.2.2)/\(dg b).length - zy.1<(dg b).length - x3.1/\sv a=sv a/\sv b=sv b/\sv x3.2.2=sv zy.2.2/\Value.int .i64 ((x2.1:Nat):Int)= .int .i64 ((x2.1:Nat):Int)/\Value.int .i64 (((x4+(x5*x6))+x3.2.1)/65536)= .int .i64 zy.2.1/\Value.int .i64 ((vlen (sv b):Nat):Int)= .int .i64 ((vlen (sv b):Nat):Int)/\Value.int .i64 (((x3.1:Nat):Int)+1)= .int .i64 ((zy.1:Nat):Int)/\Value.int .i64 ((vlen (sv a):Nat):Int)= .int .i64 ((vlen (sv a):Nat):Int)/\Value.int .i64 ((x2.1:Nat):Int)= .int .i64 ((x2.1:Nat):Int)/\(ss 3 a)=(ss 3 a)/\(ss 3 b)=(ss 3 b)/\(sset (ss 3 x3.2.2) (Int.toNat (((x2.1:Nat):Int)+((x3.1:Nat):Int))) (.int .i64 (((x4+(x5*x6))+x3.2.1)%65536)))=(ss 3 zy.2.2)/\True)))))/\((decide (((x3.1:Nat):Int)<((vlen (sv b):Nat):Int)))=false->(PureRun Try.prog (vS (Builtin.len_ #[173] 3 #[sv b])) (.int .i64 ((vlen (sv b):Nat):Int)))/\(∃_:Unit,True/\Value.int .i64 (IntKind.i64.wrap (((x2.1:Nat):Int)+((vlen (sv b):Nat):Int)))= .int .i64 (((x2.1:Nat):Int)+((vlen (sv b):Nat):Int)))/\ ∀_:Unit,(True)->(PureRun Try.prog (vS (Builtin.len_ #[173] 3 #[sv b])) (.int .i64 ((vlen (sv b):Nat):Int)))/\(∃_:Unit,True/\Value.int .i64 (IntKind.i64.wrap (((x2.1:Nat):Int)+((vlen (sv b):Nat):Int)))= .int .i64 (((x2.1:Nat):Int)+((vlen (sv b):Nat):Int)))/\ ∀_:Unit,(True)->(PureRun Try.prog (vS (Instr.indexAt 173 (sv x3.2.2) (.int .i64 (((x2.1:Nat):Int)+((vlen (sv b):Nat):Int))))) (.pointer (some ⟨(vblk (sv x3.2.2)),(Int.toNat (((x2.1:Nat):Int)+((vlen (sv b):Nat):Int))),none⟩)))/\opQr Try.prog (vS (Instr.loadAt 3 (.pointer (some ⟨(vblk (sv x3.2.2)),(Int.toNat (((x2.1:Nat):Int)+((vlen (sv b):Nat):Int))),none⟩)))) [(ss 3 x3.2.2)] Int (fun zx=> .int .i64 zx) (fun zx=>(scells (ss 3 x3.2.2))[(Int.toNat (((x2.1:Nat):Int)+((vlen (sv b):Nat):Int)))]? =some (.int .i64 zx)) (fun x7=>(∃_:Unit,True/\Value.int .i64 (IntKind.i64.wrap (x7+x3.2.1))= .int .i64 (x7+x3.2.1))/\ ∀_:Unit,(True)->(PureRun Try.prog (vS (Instr.indexAt 173 (sv x3.2.2) (.int .i64 (((x2.1:Nat):Int)+((vlen (sv b):Nat):Int))))) (.pointer (some ⟨(vblk (sv x3.2.2)),(Int.toNat (((x2.1:Nat):Int)+((vlen (sv b):Nat):Int))),none⟩)))/\opQ Try.prog (skS (Instr.storeAt 3 (.pointer (some ⟨(vblk (sv x3.2.2)),(Int.toNat (((x2.1:Nat):Int)+((vlen (sv b):Nat):Int))),none⟩)) (.int .i64 (x7+x3.2.1)))) [(ss 3 x3.2.2)] Unit (fun _=> .tuple #[]) (fun _=> [(sset (ss 3 x3.2.2) (Int.toNat (((x2.1:Nat):Int)+((vlen (sv b):Nat):Int))) (.int .i64 (x7+x3.2.1)))]) (fun _=>True) (fun _=>(∃_:Unit,True/\Value.int .i64 (IntKind.i64.wrap (((x2.1:Nat):Int)+1))= .int .i64 (((x2.1:Nat):Int)+1))/\ ∀_:Unit,(True)-> ∃zy:Nat×Row,(MulO (dg a) (dg b) zy.1 (dg zy.2)/\RowOK zy.2)/\(dg a).length - zy.1<(dg a).length - x2.1/\sv a=sv a/\sv b=sv b/\sv x3.2.2=sv zy.2/\Value.int .i64 ((vlen (sv a):Nat):Int)= .int .i64 ((vlen (sv a):Nat):Int)/\Value.int .i64 (((x2.1:Nat):Int)+1)= .int .i64 ((zy.1:Nat):Int)/\(ss 3 a)=(ss 3 a)/\(ss 3 b)=(ss 3 b)/\(sset (ss 3 x3.2.2) (Int.toNat (((x2.1:Nat):Int)+((vlen (sv b):Nat):Int))) (.int .i64 (x7+x3.2.1)))=(ss 3 zy.2)/\True))))/\((decide (((x2.1:Nat):Int)<((vlen (sv a):Nat):Int)))=false->ref1_Trim_K x2.2 (fun x8=>ref1_Mul_Q a b (sv x8) (ss 3 a) (ss 3 b) (ss 3 x8))))):=by kernel_rfl
set_option maxRecDepth 100000 in
set_option maxHeartbeats 2000000 in
theorem ref1_Mul (a b : Row) (r_a : RowOK a) (r_b : RowOK b) (la : (dg a).length <= 65536) (lb : (dg b).length <= 65536) : ref1_Mul_A a b (fun za zh zv zu zp => CallT Try.prog 203 za zh Row zv zu zp) := by
  refine call_of (c:=bodyOf Try.f203) (n:=72) (fn:=Try.f203) Try.mixed Try.func203 (by kernel_rfl) (by kernel_rfl) (by kernel_rfl) 2000 _ [] [0,1,20] rfl rfl (Eq.mpr (ref1_Mul_vc a b) ?_)
  have d_a:=rdv_eq a 3
  have d_b:=rdv_eq b 3
  have e_a:=vlen_dg a
  have e_b:=vlen_dg b
  refine ⟨xlen Try.sl173 3 a,xlen Try.sl173 3 b,⟨(),trivial,congrArg (Value.int .i64) (wrap_i64 _ (by omega) (by omega))⟩,fun _=>fun _=>opQ_mk (xmake Try.sl173 .i64 (((vlen (sv a):Nat):Int)+((vlen (sv b):Nat):Int)) (by omega) (by omega)) (wit_make (e:=3) _ _) fun x1 h1=>⟨xlen Try.sl173 3 a,⟨?_,fun x2 jx2 h2=> ?_⟩⟩⟩
  · have q:=RowOK.zeros (y:=x1) (by assumption)
    exact ⟨(0,x1),⟨by rw [q.2];exact mul_start _ _ _ (by omega),q.1⟩,rfl,rfl,rfl,rfl,rfl,rfl,rfl,rfl,trivial⟩
  obtain ⟨L,ok⟩:=h2
  have l1:=L.le;have l2:=L.len
  have da:=r_a.dig.dgt (Int.toNat ((x2.1:Nat):Int))
  refine ⟨fun h3=> ?_,fun h3=> ?_⟩
  · have hi:x2.1<(dg a).length:=by
      simp only [decide_eq_true_eq,decide_eq_false_iff_not,gt_iff_lt,ge_iff_le,beq_iff_eq,beq_eq_false_iff_ne] at *
      omega
    refine ⟨xlen Try.sl173 3 b,⟨?_,fun x3 jx3 h4=> ?_⟩⟩
    · exact ⟨(0,0,x2.2),⟨muln_start L,ok⟩,rfl,rfl,rfl,rfl,rfl,rfl,rfl,rfl,rfl,rfl,rfl,rfl,trivial⟩
    obtain ⟨M,okn⟩:=h4
    have m1:=M.le;have m2:=M.len;have m3:=M.c0;have m4:=M.c1
    have db:=r_b.dig.dgt (Int.toNat ((x3.1:Nat):Int))
    have dn:=okn.dig.dgt (Int.toNat (((x2.1:Nat):Int)+((x3.1:Nat):Int)))
    refine ⟨fun h5=> ?_,fun h5=> ?_⟩
    · have hk:x3.1<(dg b).length:=by
        simp only [decide_eq_true_eq,decide_eq_false_iff_not,gt_iff_lt,ge_iff_le,beq_iff_eq,beq_eq_false_iff_ne] at *
        omega
      refine ⟨⟨(),trivial,congrArg (Value.int .i64) (wrap_i64 _ (by omega) (by omega))⟩,fun _=>fun _=>⟨xidx Try.sl173 x3.2.2 .i64 (((x2.1:Nat):Int)+((x3.1:Nat):Int)) (by omega) (by rw [←dg_len];omega),opQr_mk (xgetR (e:=3) x3.2.2 3 Try.agg3 (Int.toNat (((x2.1:Nat):Int)+((x3.1:Nat):Int))) okn (by omega)) (wit_get (e:=3) x3.2.2 (Int.toNat (((x2.1:Nat):Int)+((x3.1:Nat):Int))) okn (by omega)) fun x4 h6=> ?_⟩⟩
      replace h6:=getR (e:=3) x3.2.2 (Int.toNat (((x2.1:Nat):Int)+((x3.1:Nat):Int))) okn (by omega) h6
      refine ⟨xidx Try.sl173 a .i64 ((x2.1:Nat):Int) (by omega) (by rw [←dg_len];omega),opQr_mk (xgetR (e:=3) a 3 Try.agg3 (Int.toNat ((x2.1:Nat):Int)) r_a (by omega)) (wit_get (e:=3) a (Int.toNat ((x2.1:Nat):Int)) r_a (by omega)) fun x5 h7=> ?_⟩
      replace h7:=getR (e:=3) a (Int.toNat ((x2.1:Nat):Int)) r_a (by omega) h7
      refine ⟨xidx Try.sl173 b .i64 ((x3.1:Nat):Int) (by omega) (by rw [←dg_len];omega),opQr_mk (xgetR (e:=3) b 3 Try.agg3 (Int.toNat ((x3.1:Nat):Int)) r_b (by omega)) (wit_get (e:=3) b (Int.toNat ((x3.1:Nat):Int)) r_b (by omega)) fun x6 h8=> ?_⟩
      replace h8:=getR (e:=3) b (Int.toNat ((x3.1:Nat):Int)) r_b (by omega) h8
      refine ⟨⟨(),trivial,congrArg (Value.int .i64) (wrap_i64 _ (by have hab:=dmul (a:=x5) (b:=x6) (by omega) (by omega) (by omega) (by omega);omega) (by have hab:=dmul (a:=x5) (b:=x6) (by omega) (by omega) (by omega) (by omega);omega))⟩,fun _=>fun _=>⟨⟨(),trivial,congrArg (Value.int .i64) (wrap_i64 _ (by have hab:=dmul (a:=x5) (b:=x6) (by omega) (by omega) (by omega) (by omega);omega) (by have hab:=dmul (a:=x5) (b:=x6) (by omega) (by omega) (by omega) (by omega);omega))⟩,fun _=>fun _=>⟨⟨(),trivial,congrArg (Value.int .i64) (wrap_i64 _ (by have hab:=dmul (a:=x5) (b:=x6) (by omega) (by omega) (by omega) (by omega);omega) (by have hab:=dmul (a:=x5) (b:=x6) (by omega) (by omega) (by omega) (by omega);omega))⟩,fun _=>fun _=> ?_⟩⟩⟩
      have hab:=dmul (a:=x5) (b:=x6) (by omega) (by omega) (by omega) (by omega)
      refine ⟨⟨(),trivial,congrArg (Value.int .i64) (wrap_i64 _ (by omega) (by omega))⟩,fun _=>fun _=>⟨⟨(),trivial,congrArg (Value.int .i64) (tmod_nat (by omega))⟩,fun _=>fun _=>⟨xidx Try.sl173 x3.2.2 .i64 (((x2.1:Nat):Int)+((x3.1:Nat):Int)) (by omega) (by rw [←dg_len];omega),opQ_mk (xput (e:=3) x3.2.2 3 Try.size3 (Int.toNat (((x2.1:Nat):Int)+((x3.1:Nat):Int))) (.int .i64 (((x4+(x5*x6))+x3.2.1)%65536)) rfl rfl (by rw [←dg_len];omega)) (⟨(),trivial⟩) fun _ _=>⟨⟨(),trivial,congrArg (Value.int .i64) (quo_i64 (by omega) (by omega))⟩,fun _=>fun _=>⟨⟨(),trivial,congrArg (Value.int .i64) (wrap_i64 _ (by omega) (by omega))⟩,fun _=>fun _=> ?_⟩⟩⟩⟩⟩
      have et:Int.toNat (((x2.1:Nat):Int)+((x3.1:Nat):Int))=x2.1+x3.1:=by omega
      have q:=muln_step (x:=((x4+(x5*x6))+x3.2.1)) r_a.dig r_b.dig okn.dig M hi hk (by simp only [et,Int.toNat_natCast] at *;simp only [*])
      have p:=okn.set (x2.1+x3.1) q.2.1 q.2.2
      exact ⟨(x3.1+1,_,x3.2.2.set (x2.1+x3.1) (.int .i64 (((x4+(x5*x6))+x3.2.1)%65536))),⟨p.2.symm▸q.1,p.1⟩,by dsimp only;omega,rfl,rfl,(sv_set _ _ _).symm,rfl,rfl,rfl,congrArg (Value.int .i64) (by dsimp only;omega),rfl,rfl,rfl,rfl,by rw [et];exact ss_set _ _ _ _ (by rw [←dg_len];omega),trivial⟩
    have hz:=(dgt_zero_of okn.dig M.z).1
    have hk:x3.1=(dg b).length:=by
      simp only [decide_eq_true_eq,decide_eq_false_iff_not,gt_iff_lt,ge_iff_le,beq_iff_eq,beq_eq_false_iff_ne] at *
      omega
    have et' :Int.toNat (((x2.1:Nat):Int)+((vlen (sv b):Nat):Int))=x2.1+(dg b).length:=by omega
    have hz' :dgt (dg x3.2.2) (Int.toNat (((x2.1:Nat):Int)+((vlen (sv b):Nat):Int)))=0:=by rw [et'];exact hz
    refine ⟨xlen Try.sl173 3 b,⟨(),trivial,congrArg (Value.int .i64) (wrap_i64 _ (by omega) (by omega))⟩,fun _=>fun _=>⟨xlen Try.sl173 3 b,⟨(),trivial,congrArg (Value.int .i64) (wrap_i64 _ (by omega) (by omega))⟩,fun _=>fun _=>⟨xidx Try.sl173 x3.2.2 .i64 (((x2.1:Nat):Int)+((vlen (sv b):Nat):Int)) (by omega) (by rw [←dg_len];omega),opQr_mk (xgetR (e:=3) x3.2.2 3 Try.agg3 (Int.toNat (((x2.1:Nat):Int)+((vlen (sv b):Nat):Int))) okn (by omega)) (wit_get (e:=3) x3.2.2 (Int.toNat (((x2.1:Nat):Int)+((vlen (sv b):Nat):Int))) okn (by omega)) fun x7 h9=> ?_⟩⟩⟩
    replace h9:=getR (e:=3) x3.2.2 (Int.toNat (((x2.1:Nat):Int)+((vlen (sv b):Nat):Int))) okn (by omega) h9
    refine ⟨⟨(),trivial,congrArg (Value.int .i64) (wrap_i64 _ (by omega) (by omega))⟩,fun _=>fun _=>⟨xidx Try.sl173 x3.2.2 .i64 (((x2.1:Nat):Int)+((vlen (sv b):Nat):Int)) (by omega) (by rw [←dg_len];omega),opQ_mk (xput (e:=3) x3.2.2 3 Try.size3 (Int.toNat (((x2.1:Nat):Int)+((vlen (sv b):Nat):Int))) (.int .i64 (x7+x3.2.1)) rfl rfl (by rw [←dg_len];omega)) (⟨(),trivial⟩) fun _ _=>⟨⟨(),trivial,congrArg (Value.int .i64) (wrap_i64 _ (by omega) (by omega))⟩,fun _=>fun _=> ?_⟩⟩⟩
    have et:Int.toNat (((x2.1:Nat):Int)+((vlen (sv b):Nat):Int))=x2.1+(dg b).length:=by omega
    have hk:x3.1=(dg b).length:=by
      simp only [decide_eq_true_eq,decide_eq_false_iff_not,gt_iff_lt,ge_iff_le,beq_iff_eq,beq_eq_false_iff_ne] at *
      omega
    rw [hk] at M
    have q:=muln_end okn.dig M hi
    have hv:x7+x3.2.1=dgt (dg x3.2.2) (x2.1+(dg b).length)+x3.2.1:=by simp only [et] at *;simp only [*]
    have p:=okn.set (x2.1+(dg b).length) q.2.1 q.2.2
    exact ⟨(x2.1+1,x3.2.2.set (x2.1+(dg b).length) (.int .i64 (dgt (dg x3.2.2) (x2.1+(dg b).length)+x3.2.1))),⟨p.2.symm▸q.1,p.1⟩,by dsimp only;omega,rfl,rfl,(sv_set _ _ _).symm,rfl,congrArg (Value.int .i64) (by dsimp only;omega),rfl,rfl,by rw [et,hv];exact ss_set _ _ _ _ (by rw [←dg_len];omega),trivial⟩
  refine ref1_Trim_m x2.2 (fun x8 rh10_ h10=> ?_)
  unfold ref1_Mul_Q
  have T:TrimR (dg x2.2) (dg x8):=by first | exact And.right (by assumption) | assumption
  have hi:x2.1=(dg a).length:=by
    simp only [decide_eq_true_eq,decide_eq_false_iff_not,gt_iff_lt,ge_iff_le,beq_iff_eq,beq_eq_false_iff_ne] at *
    omega
  rw [hi] at L
  exact ⟨_,⟨by assumption,by rw [d_a,d_b];exact T.eq.trans (mul_end L),T.canon⟩,rfl,rfl,rfl,rfl,trivial⟩
abbrev ref1_Mul_K (a b:Row) (KK:Row->Prop):Prop:=ref1_Mul_A a b (fun za zh zv zu zp=>callQ Try.prog 203 za zh Row zv zu zp KK)
theorem ref1_Mul_m (a b:Row) {KK:Row->Prop} (kont: ∀zx:Row,RowOK zx->(nv (dg zx)=nv (dg a)*nv (dg b)/\Canon (dg zx))->KK zx) (r_a:RowOK a:=by first | assumption | exact rowOK_lit _ _ (by decide)) (r_b:RowOK b:=by first | assumption | exact rowOK_lit _ _ (by decide)) (la:(dg a).length<=65536:=by omega) (lb:(dg b).length<=65536:=by omega):ref1_Mul_K a b KK:=callQ_mk (ref1_Mul a b r_a r_b la lb) (wit_row (by rw [rdv_eq a,rdv_eq b];exact Int.mul_nonneg (nv_nonneg (RowOK.dig (r_a))) (nv_nonneg (RowOK.dig (r_b))))) fun zx hz=>by
  simp only [rdv_eq] at hz
  obtain ⟨rhz_,hz⟩:=hz
  exact kont zx rhz_ hz
def ref2_Row_C:List Value->List Slot->Ctr:=fun vs hs=>⟨Row,fun zx=>sv zx,fun zx=> [(ss 3 zx)],fun zx=>RowOK zx/\nv (dg zx)=(num (varg vs 1))/\Canon (dg zx)/\(dg zx).length<=16⟩
abbrev ref2_Row_Q (a:Int) (zv:Value) (zs0:Slot):Prop:= ∃zx:Row,(RowOK zx/\nv (dg zx)=(num (vI a))/\Canon (dg zx)/\(dg zx).length<=16)/\zv=sv zx/\zs0=(ss 3 zx)/\True
abbrev ref2_Row_A (a:Int) (zF:SF Row):Prop:=zF #[vI a] [] (fun zx=>sv zx) (fun zx=> [(ss 3 zx)]) (fun zx=>(RowOK zx/\nv (dg zx)=(num (vI a))/\Canon (dg zx)/\(dg zx).length<=16))
set_option maxRecDepth 100000 in
set_option maxHeartbeats 2000000 in
theorem ref2_Row_vc (a:Int):ref2_Row_A a (fun za zh zv zu zp=>codeW Try.prog 24 none 2000 none (bodyOf Try.f132) (.reg [.sem [.nw 0],S0] (.reg [S0] (.reg [.sem (rds 4 0),S0] (.reg [S0] (.condT (.reg [S0,S0] (.reg [S0] (.reg [S0] (.condT (.reg [S0,S0, .gen [] (fun vs=>Sx.one (uu (ci (varg vs 0)%65536)) vs), .gen [] (fun vs=>Sx.one (.int .i64 (ci (varg vs 0))) vs), .sem [.nw 1], .specw [2,1] [20,1] (F_app 3),S0] (.reg [S0, .gen [] (fun vs=>Sx.one (uu (ci (varg vs 0)/65536)) vs),S0] (.reg [S0,S0] (.reg [S0] (.condT (.reg [S0,S0, .gen [] (fun vs=>Sx.one (uu (ci (varg vs 0)%65536)) vs), .gen [] (fun vs=>Sx.one (.int .i64 (ci (varg vs 0))) vs), .sem [.nw 1], .specw [20,1] [20,1] (F_app 3),S0] (.reg [S0, .gen [] (fun vs=>Sx.one (uu (ci (varg vs 0)/65536)) vs),S0] (.reg [S0,S0] (.reg [S0] (.condT (.reg [S0,S0, .gen [] (fun vs=>Sx.one (uu (ci (varg vs 0)%65536)) vs), .gen [] (fun vs=>Sx.one (.int .i64 (ci (varg vs 0))) vs), .sem [.nw 1], .specw [20,1] [20,1] (F_app 3),S0] (.reg [S0, .gen [] (fun vs=>Sx.one (uu (ci (varg vs 0)/65536)) vs),S0] (.reg [S0,S0] (.reg [S0] (.condT (.reg [S0,S0, .gen [] (fun vs=>Sx.one (uu (ci (varg vs 0)%65536)) vs), .gen [] (fun vs=>Sx.one (.int .i64 (ci (varg vs 0))) vs), .sem [.nw 1], .specw [20,1] [20,1] (F_app 3),S0] (.reg [S0, .gen [] (fun vs=>Sx.one (uu (ci (varg vs 0)/65536)) vs),S0] (.reg [S0,S0] (.reg [S0] (.condF (.reg [S0,S0] (.reg [S0] (.condT (.reg [S0,S0] (.reg [S0] (.reg [S0] (.condT (.reg [S0,S0, .gen [] (fun vs=>Sx.one (uu (ci (varg vs 0)%65536)) vs), .gen [] (fun vs=>Sx.one (.int .i64 (ci (varg vs 0))) vs), .sem [.nw 1], .specw [20,1] [20,1] (F_app 3),S0] (.reg [S0, .gen [] (fun vs=>Sx.one (uu (ci (varg vs 0)/65536)) vs),S0] (.reg [S0,S0] (.reg [S0] (.condT (.reg [S0,S0, .gen [] (fun vs=>Sx.one (uu (ci (varg vs 0)%65536)) vs), .gen [] (fun vs=>Sx.one (.int .i64 (ci (varg vs 0))) vs), .sem [.nw 1], .specw [20,1] [20,1] (F_app 3),S0] (.reg [S0, .gen [] (fun vs=>Sx.one (uu (ci (varg vs 0)/65536)) vs),S0] (.reg [S0,S0] (.reg [S0] (.condT (.reg [S0,S0, .gen [] (fun vs=>Sx.one (uu (ci (varg vs 0)%65536)) vs), .gen [] (fun vs=>Sx.one (.int .i64 (ci (varg vs 0))) vs), .sem [.nw 1], .specw [20,1] [20,1] (F_app 3),S0] (.reg [S0, .gen [] (fun vs=>Sx.one (uu (ci (varg vs 0)/65536)) vs),S0] (.reg [S0,S0] (.reg [S0] (.condT (.reg [S0,S0, .gen [] (fun vs=>Sx.one (uu (ci (varg vs 0)%65536)) vs), .gen [] (fun vs=>Sx.one (.int .i64 (ci (varg vs 0))) vs), .sem [.nw 1], .specw [20,1] [20,1] (F_app 3),S0] (.reg [S0, .gen [] (fun vs=>Sx.one (uu (ci (varg vs 0)/65536)) vs),S0] (.reg [S0,S0] (.reg [S0] (.condF (.reg [S0,S0] (.reg [S0] (.condT (.reg [S0,S0] (.reg [S0] (.reg [S0] (.condT (.reg [S0,S0, .gen [] (fun vs=>Sx.one (uu (ci (varg vs 0)%65536)) vs), .gen [] (fun vs=>Sx.one (.int .i64 (ci (varg vs 0))) vs), .sem [.nw 1], .specw [20,1] [20,1] (F_app 3),S0] (.reg [S0, .gen [] (fun vs=>Sx.one (uu (ci (varg vs 0)/65536)) vs),S0] (.reg [S0,S0] (.reg [S0] (.condT (.reg [S0,S0, .gen [] (fun vs=>Sx.one (uu (ci (varg vs 0)%65536)) vs), .gen [] (fun vs=>Sx.one (.int .i64 (ci (varg vs 0))) vs), .sem [.nw 1], .specw [20,1] [20,1] (F_app 3),S0] (.reg [S0, .gen [] (fun vs=>Sx.one (uu (ci (varg vs 0)/65536)) vs),S0] (.reg [S0,S0] (.reg [S0] (.condT (.reg [S0,S0, .gen [] (fun vs=>Sx.one (uu (ci (varg vs 0)%65536)) vs), .gen [] (fun vs=>Sx.one (.int .i64 (ci (varg vs 0))) vs), .sem [.nw 1], .specw [20,1] [20,1] (F_app 3),S0] (.reg [S0, .gen [] (fun vs=>Sx.one (uu (ci (varg vs 0)/65536)) vs),S0] (.reg [S0,S0] (.reg [S0] (.condT (.reg [S0,S0, .gen [] (fun vs=>Sx.one (uu (ci (varg vs 0)%65536)) vs), .gen [] (fun vs=>Sx.one (.int .i64 (ci (varg vs 0))) vs), .sem [.nw 1], .specw [20,1] [20,1] (F_app 3),S0] (.reg [S0, .gen [] (fun vs=>Sx.one (uu (ci (varg vs 0)/65536)) vs),S0] (.reg [S0,S0] (.reg [S0] (.condF (.reg [S0,S0] (.reg [S0] (.condT (.reg [S0,S0] (.reg [S0] (.reg [S0] (.condT (.reg [S0,S0, .gen [] (fun vs=>Sx.one (uu (ci (varg vs 0)%65536)) vs), .gen [] (fun vs=>Sx.one (.int .i64 (ci (varg vs 0))) vs), .sem [.nw 1], .specw [20,1] [20,1] (F_app 3),S0] (.reg [S0, .gen [] (fun vs=>Sx.one (uu (ci (varg vs 0)/65536)) vs),S0] (.reg [S0,S0] (.reg [S0] (.condT (.reg [S0,S0, .gen [] (fun vs=>Sx.one (uu (ci (varg vs 0)%65536)) vs), .gen [] (fun vs=>Sx.one (.int .i64 (ci (varg vs 0))) vs), .sem [.nw 1], .specw [20,1] [20,1] (F_app 3),S0] (.reg [S0, .gen [] (fun vs=>Sx.one (uu (ci (varg vs 0)/65536)) vs),S0] (.reg [S0,S0] (.reg [S0] (.condT (.reg [S0,S0, .gen [] (fun vs=>Sx.one (uu (ci (varg vs 0)%65536)) vs), .gen [] (fun vs=>Sx.one (.int .i64 (ci (varg vs 0))) vs), .sem [.nw 1], .specw [20,1] [20,1] (F_app 3),S0] (.reg [S0, .gen [] (fun vs=>Sx.one (uu (ci (varg vs 0)/65536)) vs),S0] (.reg [S0,S0] (.reg [S0] (.condT (.reg [S0,S0, .gen [] (fun vs=>Sx.one (uu (ci (varg vs 0)%65536)) vs), .gen [] (fun vs=>Sx.one (.int .i64 (ci (varg vs 0))) vs), .sem [.nw 1], .specw [20,1] [20,1] (F_app 3),S0] (.reg [S0, .gen [] (fun vs=>Sx.one (uu (ci (varg vs 0)/65536)) vs),S0] (.reg [S0,S0] (.reg [S0] (.condF (.reg [S0,S0] (.reg [S0] (.condF (.reg [S0, .callw [20] [20] ref1_Trim_C,S0] (.done)))))))))))))))))))))))))))))))))))))))))))))))))))))))))))))))))))))))))))))))))))))))))))))))))))))))))))))))))))
    (init za zh) (finW Try.prog Try.f132 [] [20] (X:=Row) zv zu zp))=
    (∀b1:Nat,rdQ 4 b1 ((true=true)/\(true=true)/\(∃_:Unit,True/\uu (Int.tmod (lim a 0) 65536)=uu ((lim a 0)%65536))/\ ∀_:Unit,(True)->(∃_:Unit,True/\Value.int .i64 (IntKind.i64.wrap ((lim a 0)%65536))= .int .i64 ((lim a 0)%65536))/\ ∀_:Unit,(True)-> ∀b2:Nat,opQ Try.prog (vS (Builtin.append_ #[173,173] 173 #[sv Row.nil, .slice (some ⟨b2,0,none⟩) 1 1])) [.free,bk b2 #[.int .i64 ((lim a 0)%65536)] 3] Row (fun zx=>sv zx) (fun zx=> [(ss 3 zx),bk b2 #[.int .i64 ((lim a 0)%65536)] 3]) (fun zx=>vals zx=rvals (sv Row.nil) (ss 3 Row.nil)++ [.int .i64 ((lim a 0)%65536)]) (fun x3=>(∃_:Unit,True/\uu (IntKind.u64.wrap (Int.tdiv (lim a 0) 65536))=uu ((lim a 0)/65536))/\ ∀_:Unit,(True)->(true=true)/\(∃_:Unit,True/\uu (Int.tmod ((lim a 0)/65536) 65536)=uu (((lim a 0)/65536)%65536))/\ ∀_:Unit,(True)->(∃_:Unit,True/\Value.int .i64 (IntKind.i64.wrap (((lim a 0)/65536)%65536))= .int .i64 (((lim a 0)/65536)%65536))/\ ∀_:Unit,(True)-> ∀b4:Nat,opQ Try.prog (vS (Builtin.append_ #[173,173] 173 #[sv x3, .slice (some ⟨b4,0,none⟩) 1 1])) [(ss 3 x3),bk b4 #[.int .i64 (((lim a 0)/65536)%65536)] 3] Row (fun zx=>sv zx) (fun zx=> [(ss 3 zx),bk b4 #[.int .i64 (((lim a 0)/65536)%65536)] 3]) (fun zx=>vals zx=rvals (sv x3) (ss 3 x3)++ [.int .i64 (((lim a 0)/65536)%65536)]) (fun x5=>(∃_:Unit,True/\uu (IntKind.u64.wrap (Int.tdiv ((lim a 0)/65536) 65536))=uu (((lim a 0)/65536)/65536))/\ ∀_:Unit,(True)->(true=true)/\(∃_:Unit,True/\uu (Int.tmod (((lim a 0)/65536)/65536) 65536)=uu ((((lim a 0)/65536)/65536)%65536))/\ ∀_:Unit,(True)->(∃_:Unit,True/\Value.int .i64 (IntKind.i64.wrap ((((lim a 0)/65536)/65536)%65536))= .int .i64 ((((lim a 0)/65536)/65536)%65536))/\ ∀_:Unit,(True)-> ∀b6:Nat,opQ Try.prog (vS (Builtin.append_ #[173,173] 173 #[sv x5, .slice (some ⟨b6,0,none⟩) 1 1])) [(ss 3 x5),bk b6 #[.int .i64 ((((lim a 0)/65536)/65536)%65536)] 3] Row (fun zx=>sv zx) (fun zx=> [(ss 3 zx),bk b6 #[.int .i64 ((((lim a 0)/65536)/65536)%65536)] 3]) (fun zx=>vals zx=rvals (sv x5) (ss 3 x5)++ [.int .i64 ((((lim a 0)/65536)/65536)%65536)]) (fun x7=>(∃_:Unit,True/\uu (IntKind.u64.wrap (Int.tdiv (((lim a 0)/65536)/65536) 65536))=uu ((((lim a 0)/65536)/65536)/65536))/\ ∀_:Unit,(True)->(true=true)/\(∃_:Unit,True/\uu (Int.tmod ((((lim a 0)/65536)/65536)/65536) 65536)=uu (((((lim a 0)/65536)/65536)/65536)%65536))/\ ∀_:Unit,(True)->(∃_:Unit,True/\Value.int .i64 (IntKind.i64.wrap (((((lim a 0)/65536)/65536)/65536)%65536))= .int .i64 (((((lim a 0)/65536)/65536)/65536)%65536))/\ ∀_:Unit,(True)-> ∀b8:Nat,opQ Try.prog (vS (Builtin.append_ #[173,173] 173 #[sv x7, .slice (some ⟨b8,0,none⟩) 1 1])) [(ss 3 x7),bk b8 #[.int .i64 (((((lim a 0)/65536)/65536)/65536)%65536)] 3] Row (fun zx=>sv zx) (fun zx=> [(ss 3 zx),bk b8 #[.int .i64 (((((lim a 0)/65536)/65536)/65536)%65536)] 3]) (fun zx=>vals zx=rvals (sv x7) (ss 3 x7)++ [.int .i64 (((((lim a 0)/65536)/65536)/65536)%65536)]) (fun x9=>(∃_:Unit,True/\uu (IntKind.u64.wrap (Int.tdiv ((((lim a 0)/65536)/65536)/65536) 65536))=uu (((((lim a 0)/65536)/65536)/65536)/65536))/\ ∀_:Unit,(True)->(false=false)/\(true=true)/\(true=true)/\(∃_:Unit,True/\uu (Int.tmod (lim a 1) 65536)=uu ((lim a 1)%65536))/\ ∀_:Unit,(True)->(∃_:Unit,True/\Value.int .i64 (IntKind.i64.wrap ((lim a 1)%65536))= .int .i64 ((lim a 1)%65536))/\ ∀_:Unit,(True)-> ∀b10:Nat,opQ Try.prog (vS (Builtin.append_ #[173,173] 173 #[sv x9, .slice (some ⟨b10,0,none⟩) 1 1])) [(ss 3 x9),bk b10 #[.int .i64 ((lim a 1)%65536)] 3] Row (fun zx=>sv zx) (fun zx=> [(ss 3 zx),bk b10 #[.int .i64 ((lim a 1)%65536)] 3]) (fun zx=>vals zx=rvals (sv x9) (ss 3 x9)++ [.int .i64 ((lim a 1)%65536)]) (fun x11=>(∃_:Unit,True/\uu (IntKind.u64.wrap (Int.tdiv (lim a 1) 65536))=uu ((lim a 1)/65536))/\ ∀_:Unit,(True)->(true=true)/\(∃_:Unit,True/\uu (Int.tmod ((lim a 1)/65536) 65536)=uu (((lim a 1)/65536)%65536))/\ ∀_:Unit,(True)->(∃_:Unit,True/\Value.int .i64 (IntKind.i64.wrap (((lim a 1)/65536)%65536))= .int .i64 (((lim a 1)/65536)%65536))/\ ∀_:Unit,(True)-> ∀b12:Nat,opQ Try.prog (vS (Builtin.append_ #[173,173] 173 #[sv x11, .slice (some ⟨b12,0,none⟩) 1 1])) [(ss 3 x11),bk b12 #[.int .i64 (((lim a 1)/65536)%65536)] 3] Row (fun zx=>sv zx) (fun zx=> [(ss 3 zx),bk b12 #[.int .i64 (((lim a 1)/65536)%65536)] 3]) (fun zx=>vals zx=rvals (sv x11) (ss 3 x11)++ [.int .i64 (((lim a 1)/65536)%65536)]) (fun x13=>(∃_:Unit,True/\uu (IntKind.u64.wrap (Int.tdiv ((lim a 1)/65536) 65536))=uu (((lim a 1)/65536)/65536))/\ ∀_:Unit,(True)->(true=true)/\(∃_:Unit,True/\uu (Int.tmod (((lim a 1)/65536)/65536) 65536)=uu ((((lim a 1)/65536)/65536)%65536))/\ ∀_:Unit,(True)->(∃_:Unit,True/\Value.int .i64 (IntKind.i64.wrap ((((lim a 1)/65536)/65536)%65536))= .int .i64 ((((lim a 1)/65536)/65536)%65536))/\ ∀_:Unit,(True)-> ∀b14:Nat,opQ Try.prog (vS (Builtin.append_ #[173,173] 173 #[sv x13, .slice (some ⟨b14,0,none⟩) 1 1])) [(ss 3 x13),bk b14 #[.int .i64 ((((lim a 1)/65536)/65536)%65536)] 3] Row (fun zx=>sv zx) (fun zx=> [(ss 3 zx),bk b14 #[.int .i64 ((((lim a 1)/65536)/65536)%65536)] 3]) (fun zx=>vals zx=rvals (sv x13) (ss 3 x13)++ [.int .i64 ((((lim a 1)/65536)/65536)%65536)]) (fun x15=>(∃_:Unit,True/\uu (IntKind.u64.wrap (Int.tdiv (((lim a 1)/65536)/65536) 65536))=uu ((((lim a 1)/65536)/65536)/65536))/\ ∀_:Unit,(True)->(true=true)/\(∃_:Unit,True/\uu (Int.tmod ((((lim a 1)/65536)/65536)/65536) 65536)=uu (((((lim a 1)/65536)/65536)/65536)%65536))/\ ∀_:Unit,(True)->(∃_:Unit,True/\Value.int .i64 (IntKind.i64.wrap (((((lim a 1)/65536)/65536)/65536)%65536))= .int .i64 (((((lim a 1)/65536)/65536)/65536)%65536))/\ ∀_:Unit,(True)-> ∀b16:Nat,opQ Try.prog (vS (Builtin.append_ #[173,173] 173 #[sv x15, .slice (some ⟨b16,0,none⟩) 1 1])) [(ss 3 x15),bk b16 #[.int .i64 (((((lim a 1)/65536)/65536)/65536)%65536)] 3] Row (fun zx=>sv zx) (fun zx=> [(ss 3 zx),bk b16 #[.int .i64 (((((lim a 1)/65536)/65536)/65536)%65536)] 3]) (fun zx=>vals zx=rvals (sv x15) (ss 3 x15)++ [.int .i64 (((((lim a 1)/65536)/65536)/65536)%65536)]) (fun x17=>(∃_:Unit,True/\uu (IntKind.u64.wrap (Int.tdiv ((((lim a 1)/65536)/65536)/65536) 65536))=uu (((((lim a 1)/65536)/65536)/65536)/65536))/\ ∀_:Unit,(True)->(false=false)/\(true=true)/\(true=true)/\(∃_:Unit,True/\uu (Int.tmod (lim a 2) 65536)=uu ((lim a 2)%65536))/\ ∀_:Unit,(True)->(∃_:Unit,True/\Value.int .i64 (IntKind.i64.wrap ((lim a 2)%65536))= .int .i64 ((lim a 2)%65536))/\ ∀_:Unit,(True)-> ∀b18:Nat,opQ Try.prog (vS (Builtin.append_ #[173,173] 173 #[sv x17, .slice (some ⟨b18,0,none⟩) 1 1])) [(ss 3 x17),bk b18 #[.int .i64 ((lim a 2)%65536)] 3] Row (fun zx=>sv zx) (fun zx=> [(ss 3 zx),bk b18 #[.int .i64 ((lim a 2)%65536)] 3]) (fun zx=>vals zx=rvals (sv x17) (ss 3 x17)++ [.int .i64 ((lim a 2)%65536)]) (fun x19=>(∃_:Unit,True/\uu (IntKind.u64.wrap (Int.tdiv (lim a 2) 65536))=uu ((lim a 2)/65536))/\ ∀_:Unit,(True)->(true=true)/\(∃_:Unit,True/\uu (Int.tmod ((lim a 2)/65536) 65536)=uu (((lim a 2)/65536)%65536))/\ ∀_:Unit,(True)->(∃_:Unit,True/\Value.int .i64 (IntKind.i64.wrap (((lim a 2)/65536)%65536))= .int .i64 (((lim a 2)/65536)%65536))/\ ∀_:Unit,(True)-> ∀b20:Nat,opQ Try.prog (vS (Builtin.append_ #[173,173] 173 #[sv x19, .slice (some ⟨b20,0,none⟩) 1 1])) [(ss 3 x19),bk b20 #[.int .i64 (((lim a 2)/65536)%65536)] 3] Row (fun zx=>sv zx) (fun zx=> [(ss 3 zx),bk b20 #[.int .i64 (((lim a 2)/65536)%65536)] 3]) (fun zx=>vals zx=rvals (sv x19) (ss 3 x19)++ [.int .i64 (((lim a 2)/65536)%65536)]) (fun x21=>(∃_:Unit,True/\uu (IntKind.u64.wrap (Int.tdiv ((lim a 2)/65536) 65536))=uu (((lim a 2)/65536)/65536))/\ ∀_:Unit,(True)->(true=true)/\(∃_:Unit,True/\uu (Int.tmod (((lim a 2)/65536)/65536) 65536)=uu ((((lim a 2)/65536)/65536)%65536))/\ ∀_:Unit,(True)->(∃_:Unit,True/\Value.int .i64 (IntKind.i64.wrap ((((lim a 2)/65536)/65536)%65536))= .int .i64 ((((lim a 2)/65536)/65536)%65536))/\ ∀_:Unit,(True)-> ∀b22:Nat,opQ Try.prog (vS (Builtin.append_ #[173,173] 173 #[sv x21, .slice (some ⟨b22,0,none⟩) 1 1])) [(ss 3 x21),bk b22 #[.int .i64 ((((lim a 2)/65536)/65536)%65536)] 3] Row (fun zx=>sv zx) (fun zx=> [(ss 3 zx),bk b22 #[.int .i64 ((((lim a 2)/65536)/65536)%65536)] 3]) (fun zx=>vals zx=rvals (sv x21) (ss 3 x21)++ [.int .i64 ((((lim a 2)/65536)/65536)%65536)]) (fun x23=>(∃_:Unit,True/\uu (IntKind.u64.wrap (Int.tdiv (((lim a 2)/65536)/65536) 65536))=uu ((((lim a 2)/65536)/65536)/65536))/\ ∀_:Unit,(True)->(true=true)/\(∃_:Unit,True/\uu (Int.tmod ((((lim a 2)/65536)/65536)/65536) 65536)=uu (((((lim a 2)/65536)/65536)/65536)%65536))/\ ∀_:Unit,(True)->(∃_:Unit,True/\Value.int .i64 (IntKind.i64.wrap (((((lim a 2)/65536)/65536)/65536)%65536))= .int .i64 (((((lim a 2)/65536)/65536)/65536)%65536))/\ ∀_:Unit,(True)-> ∀b24:Nat,opQ Try.prog (vS (Builtin.append_ #[173,173] 173 #[sv x23, .slice (some ⟨b24,0,none⟩) 1 1])) [(ss 3 x23),bk b24 #[.int .i64 (((((lim a 2)/65536)/65536)/65536)%65536)] 3] Row (fun zx=>sv zx) (fun zx=> [(ss 3 zx),bk b24 #[.int .i64 (((((lim a 2)/65536)/65536)/65536)%65536)] 3]) (fun zx=>vals zx=rvals (sv x23) (ss 3 x23)++ [.int .i64 (((((lim a 2)/65536)/65536)/65536)%65536)]) (fun x25=>(∃_:Unit,True/\uu (IntKind.u64.wrap (Int.tdiv ((((lim a 2)/65536)/65536)/65536) 65536))=uu (((((lim a 2)/65536)/65536)/65536)/65536))/\ ∀_:Unit,(True)->(false=false)/\(true=true)/\(true=true)/\(∃_:Unit,True/\uu (Int.tmod (lim a 3) 65536)=uu ((lim a 3)%65536))/\ ∀_:Unit,(True)->(∃_:Unit,True/\Value.int .i64 (IntKind.i64.wrap ((lim a 3)%65536))= .int .i64 ((lim a 3)%65536))/\ ∀_:Unit,(True)-> ∀b26:Nat,opQ Try.prog (vS (Builtin.append_ #[173,173] 173 #[sv x25, .slice (some ⟨b26,0,none⟩) 1 1])) [(ss 3 x25),bk b26 #[.int .i64 ((lim a 3)%65536)] 3] Row (fun zx=>sv zx) (fun zx=> [(ss 3 zx),bk b26 #[.int .i64 ((lim a 3)%65536)] 3]) (fun zx=>vals zx=rvals (sv x25) (ss 3 x25)++ [.int .i64 ((lim a 3)%65536)]) (fun x27=>(∃_:Unit,True/\uu (IntKind.u64.wrap (Int.tdiv (lim a 3) 65536))=uu ((lim a 3)/65536))/\ ∀_:Unit,(True)->(true=true)/\(∃_:Unit,True/\uu (Int.tmod ((lim a 3)/65536) 65536)=uu (((lim a 3)/65536)%65536))/\ ∀_:Unit,(True)->(∃_:Unit,True/\Value.int .i64 (IntKind.i64.wrap (((lim a 3)/65536)%65536))= .int .i64 (((lim a 3)/65536)%65536))/\ ∀_:Unit,(True)-> ∀b28:Nat,opQ Try.prog (vS (Builtin.append_ #[173,173] 173 #[sv x27, .slice (some ⟨b28,0,none⟩) 1 1])) [(ss 3 x27),bk b28 #[.int .i64 (((lim a 3)/65536)%65536)] 3] Row (fun zx=>sv zx) (fun zx=> [(ss 3 zx),bk b28 #[.int .i64 (((lim a 3)/65536)%65536)] 3]) (fun zx=>vals zx=rvals (sv x27) (ss 3 x27)++ [.int .i64 (((lim a 3)/65536)%65536)]) (fun x29=>(∃_:Unit,True/\uu (IntKind.u64.wrap (Int.tdiv ((lim a 3)/65536) 65536))=uu (((lim a 3)/65536)/65536))/\ ∀_:Unit,(True)->(true=true)/\(∃_:Unit,True/\uu (Int.tmod (((lim a 3)/65536)/65536) 65536)=uu ((((lim a 3)/65536)/65536)%65536))/\ ∀_:Unit,(True)->(∃_:Unit,True/\Value.int .i64 (IntKind.i64.wrap ((((lim a 3)/65536)/65536)%65536))= .int .i64 ((((lim a 3)/65536)/65536)%65536))/\ ∀_:Unit,(True)-> ∀b30:Nat,opQ Try.prog (vS (Builtin.append_ #[173,173] 173 #[sv x29, .slice (some ⟨b30,0,none⟩) 1 1])) [(ss 3 x29),bk b30 #[.int .i64 ((((lim a 3)/65536)/65536)%65536)] 3] Row (fun zx=>sv zx) (fun zx=> [(ss 3 zx),bk b30 #[.int .i64 ((((lim a 3)/65536)/65536)%65536)] 3]) (fun zx=>vals zx=rvals (sv x29) (ss 3 x29)++ [.int .i64 ((((lim a 3)/65536)/65536)%65536)]) (fun x31=>(∃_:Unit,True/\uu (IntKind.u64.wrap (Int.tdiv (((lim a 3)/65536)/65536) 65536))=uu ((((lim a 3)/65536)/65536)/65536))/\ ∀_:Unit,(True)->(true=true)/\(∃_:Unit,True/\uu (Int.tmod ((((lim a 3)/65536)/65536)/65536) 65536)=uu (((((lim a 3)/65536)/65536)/65536)%65536))/\ ∀_:Unit,(True)->(∃_:Unit,True/\Value.int .i64 (IntKind.i64.wrap (((((lim a 3)/65536)/65536)/65536)%65536))= .int .i64 (((((lim a 3)/65536)/65536)/65536)%65536))/\ ∀_:Unit,(True)-> ∀b32:Nat,opQ Try.prog (vS (Builtin.append_ #[173,173] 173 #[sv x31, .slice (some ⟨b32,0,none⟩) 1 1])) [(ss 3 x31),bk b32 #[.int .i64 (((((lim a 3)/65536)/65536)/65536)%65536)] 3] Row (fun zx=>sv zx) (fun zx=> [(ss 3 zx),bk b32 #[.int .i64 (((((lim a 3)/65536)/65536)/65536)%65536)] 3]) (fun zx=>vals zx=rvals (sv x31) (ss 3 x31)++ [.int .i64 (((((lim a 3)/65536)/65536)/65536)%65536)]) (fun x33=>(∃_:Unit,True/\uu (IntKind.u64.wrap (Int.tdiv ((((lim a 3)/65536)/65536)/65536) 65536))=uu (((((lim a 3)/65536)/65536)/65536)/65536))/\ ∀_:Unit,(True)->(false=false)/\(false=false)/\ref1_Trim_K x33 (fun x34=>ref2_Row_Q a (sv x34) (ss 3 x34)))))))))))))))))))):=by kernel_rfl
set_option maxRecDepth 100000 in
set_option maxHeartbeats 2000000 in
theorem ref2_Row (a:Int) (r_a:R4 a):ref2_Row_A a (fun za zh zv zu zp=>CallT Try.prog 132 za zh Row zv zu zp):=by
  refine call_of (c:=bodyOf Try.f132) (n:=24) (fn:=Try.f132) Try.mixed Try.func132 (by kernel_rfl) (by kernel_rfl) (by kernel_rfl) 2000 _ [] [20] rfl rfl (Eq.mpr (ref2_Row_vc a) ?_)
  have q0:=nil3
  intro b1
  refine rdQ_mk 4 _ ⟨rfl,?_⟩
  have ww:=W_lim a 0
  refine ⟨rfl,⟨⟨(),trivial,congrArg (Value.int .u64) (tmod_nat ww.1)⟩,fun _=>fun _=>⟨⟨(),trivial,congrArg (Value.int .i64) (conv16 _)⟩,fun _=>fun _=>fun b2=>opQ_mk (xappendR Try.sl173 173 Row.nil (Nat.le_trans (Nat.le_of_eq q0.2.1) (by decide)) b2 1 (.int .i64 ((lim a 0)%65536)) rfl) (wit_app _) fun x3 h1=> ?_⟩⟩⟩
  rw [rvals_eq] at h1
  have q1:=snoc3 (x:=((lim a 0)%65536)) q0 (show P16 0=1 from rfl) (by assumption) (m16_0 _) (m16_1 _)
  refine ⟨⟨(),trivial,congrArg (Value.int .u64) (quo_u16 ww)⟩,fun _=>fun _=>⟨rfl,⟨⟨(),trivial,congrArg (Value.int .u64) (tmod_nat (W_div ww).1)⟩,fun _=>fun _=>⟨⟨(),trivial,congrArg (Value.int .i64) (conv16 _)⟩,fun _=>fun _=>fun b4=>opQ_mk (xappendR Try.sl173 173 x3 (Nat.le_trans (Nat.le_of_eq q1.2.1) (by decide)) b4 1 (.int .i64 (((lim a 0)/65536)%65536)) rfl) (wit_app _) fun x5 h2=> ?_⟩⟩⟩⟩
  rw [rvals_eq] at h2
  have q2:=snoc3 (x:=(((lim a 0)/65536)%65536)) q1 (show P16 1=65536 from rfl) (by assumption) (m16_0 _) (m16_1 _)
  refine ⟨⟨(),trivial,congrArg (Value.int .u64) (quo_u16 (W_div ww))⟩,fun _=>fun _=>⟨rfl,⟨⟨(),trivial,congrArg (Value.int .u64) (tmod_nat (W_div (W_div ww)).1)⟩,fun _=>fun _=>⟨⟨(),trivial,congrArg (Value.int .i64) (conv16 _)⟩,fun _=>fun _=>fun b6=>opQ_mk (xappendR Try.sl173 173 x5 (Nat.le_trans (Nat.le_of_eq q2.2.1) (by decide)) b6 1 (.int .i64 ((((lim a 0)/65536)/65536)%65536)) rfl) (wit_app _) fun x7 h3=> ?_⟩⟩⟩⟩
  rw [rvals_eq] at h3
  have q3:=snoc3 (x:=((((lim a 0)/65536)/65536)%65536)) q2 (show P16 2=4294967296 from rfl) (by assumption) (m16_0 _) (m16_1 _)
  refine ⟨⟨(),trivial,congrArg (Value.int .u64) (quo_u16 (W_div (W_div ww)))⟩,fun _=>fun _=>⟨rfl,⟨⟨(),trivial,congrArg (Value.int .u64) (tmod_nat (W_div (W_div (W_div ww))).1)⟩,fun _=>fun _=>⟨⟨(),trivial,congrArg (Value.int .i64) (conv16 _)⟩,fun _=>fun _=>fun b8=>opQ_mk (xappendR Try.sl173 173 x7 (Nat.le_trans (Nat.le_of_eq q3.2.1) (by decide)) b8 1 (.int .i64 (((((lim a 0)/65536)/65536)/65536)%65536)) rfl) (wit_app _) fun x9 h4=> ?_⟩⟩⟩⟩
  rw [rvals_eq] at h4
  have q4:=snoc3 (x:=(((((lim a 0)/65536)/65536)/65536)%65536)) q3 (show P16 3=281474976710656 from rfl) (by assumption) (m16_0 _) (m16_1 _)
  refine ⟨⟨(),trivial,congrArg (Value.int .u64) (quo_u16 (W_div (W_div (W_div ww))))⟩,fun _=>fun _=>⟨rfl,⟨rfl,?_⟩⟩⟩
  have ww:=W_lim a 1
  refine ⟨rfl,⟨⟨(),trivial,congrArg (Value.int .u64) (tmod_nat ww.1)⟩,fun _=>fun _=>⟨⟨(),trivial,congrArg (Value.int .i64) (conv16 _)⟩,fun _=>fun _=>fun b10=>opQ_mk (xappendR Try.sl173 173 x9 (Nat.le_trans (Nat.le_of_eq q4.2.1) (by decide)) b10 1 (.int .i64 ((lim a 1)%65536)) rfl) (wit_app _) fun x11 h5=> ?_⟩⟩⟩
  rw [rvals_eq] at h5
  have q5:=snoc3 (x:=((lim a 1)%65536)) q4 (show P16 4=18446744073709551616 from rfl) (by assumption) (m16_0 _) (m16_1 _)
  refine ⟨⟨(),trivial,congrArg (Value.int .u64) (quo_u16 ww)⟩,fun _=>fun _=>⟨rfl,⟨⟨(),trivial,congrArg (Value.int .u64) (tmod_nat (W_div ww).1)⟩,fun _=>fun _=>⟨⟨(),trivial,congrArg (Value.int .i64) (conv16 _)⟩,fun _=>fun _=>fun b12=>opQ_mk (xappendR Try.sl173 173 x11 (Nat.le_trans (Nat.le_of_eq q5.2.1) (by decide)) b12 1 (.int .i64 (((lim a 1)/65536)%65536)) rfl) (wit_app _) fun x13 h6=> ?_⟩⟩⟩⟩
  rw [rvals_eq] at h6
  have q6:=snoc3 (x:=(((lim a 1)/65536)%65536)) q5 (show P16 5=1208925819614629174706176 from rfl) (by assumption) (m16_0 _) (m16_1 _)
  refine ⟨⟨(),trivial,congrArg (Value.int .u64) (quo_u16 (W_div ww))⟩,fun _=>fun _=>⟨rfl,⟨⟨(),trivial,congrArg (Value.int .u64) (tmod_nat (W_div (W_div ww)).1)⟩,fun _=>fun _=>⟨⟨(),trivial,congrArg (Value.int .i64) (conv16 _)⟩,fun _=>fun _=>fun b14=>opQ_mk (xappendR Try.sl173 173 x13 (Nat.le_trans (Nat.le_of_eq q6.2.1) (by decide)) b14 1 (.int .i64 ((((lim a 1)/65536)/65536)%65536)) rfl) (wit_app _) fun x15 h7=> ?_⟩⟩⟩⟩
  rw [rvals_eq] at h7
  have q7:=snoc3 (x:=((((lim a 1)/65536)/65536)%65536)) q6 (show P16 6=79228162514264337593543950336 from rfl) (by assumption) (m16_0 _) (m16_1 _)
  refine ⟨⟨(),trivial,congrArg (Value.int .u64) (quo_u16 (W_div (W_div ww)))⟩,fun _=>fun _=>⟨rfl,⟨⟨(),trivial,congrArg (Value.int .u64) (tmod_nat (W_div (W_div (W_div ww))).1)⟩,fun _=>fun _=>⟨⟨(),trivial,congrArg (Value.int .i64) (conv16 _)⟩,fun _=>fun _=>fun b16=>opQ_mk (xappendR Try.sl173 173 x15 (Nat.le_trans (Nat.le_of_eq q7.2.1) (by decide)) b16 1 (.int .i64 (((((lim a 1)/65536)/65536)/65536)%65536)) rfl) (wit_app _) fun x17 h8=> ?_⟩⟩⟩⟩
  rw [rvals_eq] at h8
  have q8:=snoc3 (x:=(((((lim a 1)/65536)/65536)/65536)%65536)) q7 (show P16 7=5192296858534827628530496329220096 from rfl) (by assumption) (m16_0 _) (m16_1 _)
  refine ⟨⟨(),trivial,congrArg (Value.int .u64) (quo_u16 (W_div (W_div (W_div ww))))⟩,fun _=>fun _=>⟨rfl,⟨rfl,?_⟩⟩⟩
  have ww:=W_lim a 2
  refine ⟨rfl,⟨⟨(),trivial,congrArg (Value.int .u64) (tmod_nat ww.1)⟩,fun _=>fun _=>⟨⟨(),trivial,congrArg (Value.int .i64) (conv16 _)⟩,fun _=>fun _=>fun b18=>opQ_mk (xappendR Try.sl173 173 x17 (Nat.le_trans (Nat.le_of_eq q8.2.1) (by decide)) b18 1 (.int .i64 ((lim a 2)%65536)) rfl) (wit_app _) fun x19 h9=> ?_⟩⟩⟩
  rw [rvals_eq] at h9
  have q9:=snoc3 (x:=((lim a 2)%65536)) q8 (show P16 8=340282366920938463463374607431768211456 from rfl) (by assumption) (m16_0 _) (m16_1 _)
  refine ⟨⟨(),trivial,congrArg (Value.int .u64) (quo_u16 ww)⟩,fun _=>fun _=>⟨rfl,⟨⟨(),trivial,congrArg (Value.int .u64) (tmod_nat (W_div ww).1)⟩,fun _=>fun _=>⟨⟨(),trivial,congrArg (Value.int .i64) (conv16 _)⟩,fun _=>fun _=>fun b20=>opQ_mk (xappendR Try.sl173 173 x19 (Nat.le_trans (Nat.le_of_eq q9.2.1) (by decide)) b20 1 (.int .i64 (((lim a 2)/65536)%65536)) rfl) (wit_app _) fun x21 h10=> ?_⟩⟩⟩⟩
  rw [rvals_eq] at h10
  have q10:=snoc3 (x:=(((lim a 2)/65536)%65536)) q9 (show P16 9=22300745198530623141535718272648361505980416 from rfl) (by assumption) (m16_0 _) (m16_1 _)
  refine ⟨⟨(),trivial,congrArg (Value.int .u64) (quo_u16 (W_div ww))⟩,fun _=>fun _=>⟨rfl,⟨⟨(),trivial,congrArg (Value.int .u64) (tmod_nat (W_div (W_div ww)).1)⟩,fun _=>fun _=>⟨⟨(),trivial,congrArg (Value.int .i64) (conv16 _)⟩,fun _=>fun _=>fun b22=>opQ_mk (xappendR Try.sl173 173 x21 (Nat.le_trans (Nat.le_of_eq q10.2.1) (by decide)) b22 1 (.int .i64 ((((lim a 2)/65536)/65536)%65536)) rfl) (wit_app _) fun x23 h11=> ?_⟩⟩⟩⟩
  rw [rvals_eq] at h11
  have q11:=snoc3 (x:=((((lim a 2)/65536)/65536)%65536)) q10 (show P16 10=1461501637330902918203684832716283019655932542976 from rfl) (by assumption) (m16_0 _) (m16_1 _)
  refine ⟨⟨(),trivial,congrArg (Value.int .u64) (quo_u16 (W_div (W_div ww)))⟩,fun _=>fun _=>⟨rfl,⟨⟨(),trivial,congrArg (Value.int .u64) (tmod_nat (W_div (W_div (W_div ww))).1)⟩,fun _=>fun _=>⟨⟨(),trivial,congrArg (Value.int .i64) (conv16 _)⟩,fun _=>fun _=>fun b24=>opQ_mk (xappendR Try.sl173 173 x23 (Nat.le_trans (Nat.le_of_eq q11.2.1) (by decide)) b24 1 (.int .i64 (((((lim a 2)/65536)/65536)/65536)%65536)) rfl) (wit_app _) fun x25 h12=> ?_⟩⟩⟩⟩
  rw [rvals_eq] at h12
  have q12:=snoc3 (x:=(((((lim a 2)/65536)/65536)/65536)%65536)) q11 (show P16 11=95780971304118053647396689196894323976171195136475136 from rfl) (by assumption) (m16_0 _) (m16_1 _)
  refine ⟨⟨(),trivial,congrArg (Value.int .u64) (quo_u16 (W_div (W_div (W_div ww))))⟩,fun _=>fun _=>⟨rfl,⟨rfl,?_⟩⟩⟩
  have ww:=W_lim a 3
  refine ⟨rfl,⟨⟨(),trivial,congrArg (Value.int .u64) (tmod_nat ww.1)⟩,fun _=>fun _=>⟨⟨(),trivial,congrArg (Value.int .i64) (conv16 _)⟩,fun _=>fun _=>fun b26=>opQ_mk (xappendR Try.sl173 173 x25 (Nat.le_trans (Nat.le_of_eq q12.2.1) (by decide)) b26 1 (.int .i64 ((lim a 3)%65536)) rfl) (wit_app _) fun x27 h13=> ?_⟩⟩⟩
  rw [rvals_eq] at h13
  have q13:=snoc3 (x:=((lim a 3)%65536)) q12 (show P16 12=6277101735386680763835789423207666416102355444464034512896 from rfl) (by assumption) (m16_0 _) (m16_1 _)
  refine ⟨⟨(),trivial,congrArg (Value.int .u64) (quo_u16 ww)⟩,fun _=>fun _=>⟨rfl,⟨⟨(),trivial,congrArg (Value.int .u64) (tmod_nat (W_div ww).1)⟩,fun _=>fun _=>⟨⟨(),trivial,congrArg (Value.int .i64) (conv16 _)⟩,fun _=>fun _=>fun b28=>opQ_mk (xappendR Try.sl173 173 x27 (Nat.le_trans (Nat.le_of_eq q13.2.1) (by decide)) b28 1 (.int .i64 (((lim a 3)/65536)%65536)) rfl) (wit_app _) fun x29 h14=> ?_⟩⟩⟩⟩
  rw [rvals_eq] at h14
  have q14:=snoc3 (x:=(((lim a 3)/65536)%65536)) q13 (show P16 13=411376139330301510538742295639337626245683966408394965837152256 from rfl) (by assumption) (m16_0 _) (m16_1 _)
  refine ⟨⟨(),trivial,congrArg (Value.int .u64) (quo_u16 (W_div ww))⟩,fun _=>fun _=>⟨rfl,⟨⟨(),trivial,congrArg (Value.int .u64) (tmod_nat (W_div (W_div ww)).1)⟩,fun _=>fun _=>⟨⟨(),trivial,congrArg (Value.int .i64) (conv16 _)⟩,fun _=>fun _=>fun b30=>opQ_mk (xappendR Try.sl173 173 x29 (Nat.le_trans (Nat.le_of_eq q14.2.1) (by decide)) b30 1 (.int .i64 ((((lim a 3)/65536)/65536)%65536)) rfl) (wit_app _) fun x31 h15=> ?_⟩⟩⟩⟩
  rw [rvals_eq] at h15
  have q15:=snoc3 (x:=((((lim a 3)/65536)/65536)%65536)) q14 (show P16 14=26959946667150639794667015087019630673637144422540572481103610249216 from rfl) (by assumption) (m16_0 _) (m16_1 _)
  refine ⟨⟨(),trivial,congrArg (Value.int .u64) (quo_u16 (W_div (W_div ww)))⟩,fun _=>fun _=>⟨rfl,⟨⟨(),trivial,congrArg (Value.int .u64) (tmod_nat (W_div (W_div (W_div ww))).1)⟩,fun _=>fun _=>⟨⟨(),trivial,congrArg (Value.int .i64) (conv16 _)⟩,fun _=>fun _=>fun b32=>opQ_mk (xappendR Try.sl173 173 x31 (Nat.le_trans (Nat.le_of_eq q15.2.1) (by decide)) b32 1 (.int .i64 (((((lim a 3)/65536)/65536)/65536)%65536)) rfl) (wit_app _) fun x33 h16=> ?_⟩⟩⟩⟩
  rw [rvals_eq] at h16
  have q16:=snoc3 (x:=(((((lim a 3)/65536)/65536)/65536)%65536)) q15 (show P16 15=1766847064778384329583297500742918515827483896875618958121606201292619776 from rfl) (by assumption) (m16_0 _) (m16_1 _)
  refine ⟨⟨(),trivial,congrArg (Value.int .u64) (quo_u16 (W_div (W_div (W_div ww))))⟩,fun _=>fun _=>⟨rfl,⟨rfl,?_⟩⟩⟩
  obtain ⟨ok16,ql,hq⟩:=q16
  clear q0 q1 q2 q3 q4 q5 q6 q7 q8 q9 q10 q11 q12 q13 q14 q15
  refine ref1_Trim_m x33 (fun x34 rh17_ h17=> ?_)
  unfold ref2_Row_Q
  have T:TrimR (dg x33) (dg x34):=by first | exact And.right (by assumption) | assumption
  have w0:=limb_digits (W_lim a 0)
  have w1:=limb_digits (W_lim a 1)
  have w2:=limb_digits (W_lim a 2)
  have w3:=limb_digits (W_lim a 3)
  have ea:=lims a
  rw [num_vI r_a] at ea
  have hn:nv (dg x34)=a:=by
    rw [T.eq,hq]
    refine Eq.trans ?_ ea.symm
    clear hq ea
    omega
  exact ⟨_,⟨by assumption,by rw [num_vI r_a];exact hn,T.canon,num_len (RowOK.dig (by assumption)) T.canon hn r_a⟩,rfl,rfl,trivial⟩
abbrev ref2_Row_K (a:Int) (KK:Row->Prop):Prop:=ref2_Row_A a (fun za zh zv zu zp=>callQ Try.prog 132 za zh Row zv zu zp KK)
theorem ref2_Row_m (a:Int) {KK:Row->Prop} (kont: ∀zx:Row,RowOK zx->(nv (dg zx)=a/\Canon (dg zx)/\(dg zx).length<=16)->KK zx) (r_a:R4 a:=by assumption):ref2_Row_K a KK:=callQ_mk (ref2_Row a r_a) (wit_num (by first | exact R4_num _ | exact r_a)) fun zx hz=>by
  obtain ⟨rhz_,hz⟩:=hz
  try simp only [num_vI (n:=a) r_a] at hz
  exact kont zx rhz_ hz
def ref1_Div_C:List Value->List Slot->Ctr:=fun vs hs=>⟨Row×Row,fun zx=> .tuple #[sv zx.1,sv zx.2],fun zx=> [(sarg hs 0),(sarg hs 1),(ss 3 zx.1),(ss 3 zx.2)],fun zx=>RowOK zx.1/\RowOK zx.2/\nv (dg zx.1)=nv (rdv (varg vs 1) (sarg hs 0))/nv (rdv (varg vs 2) (sarg hs 1))/\nv (dg zx.2)=nv (rdv (varg vs 1) (sarg hs 0))%nv (rdv (varg vs 2) (sarg hs 1))/\Canon (dg zx.1)/\Canon (dg zx.2)⟩
abbrev ref1_Div_Q (a b:Row) (zv:Value) (zs0:Slot) (zs1:Slot) (zs2:Slot) (zs3:Slot):Prop:= ∃zx:Row×Row,(RowOK zx.1/\RowOK zx.2/\nv (dg zx.1)=nv (rdv (sv a) (ss 3 a))/nv (rdv (sv b) (ss 3 b))/\nv (dg zx.2)=nv (rdv (sv a) (ss 3 a))%nv (rdv (sv b) (ss 3 b))/\Canon (dg zx.1)/\Canon (dg zx.2))/\zv= .tuple #[sv zx.1,sv zx.2]/\zs0=(ss 3 a)/\zs1=(ss 3 b)/\zs2=(ss 3 zx.1)/\zs3=(ss 3 zx.2)/\True
abbrev ref1_Div_A (a b:Row) (zF:SF (Row×Row)):Prop:=zF #[sv a,sv b] [(ss 3 a),(ss 3 b)] (fun zx=> .tuple #[sv zx.1,sv zx.2]) (fun zx=> [(ss 3 a),(ss 3 b),(ss 3 zx.1),(ss 3 zx.2)]) (fun zx=>(RowOK zx.1/\RowOK zx.2/\nv (dg zx.1)=nv (rdv (sv a) (ss 3 a))/nv (rdv (sv b) (ss 3 b))/\nv (dg zx.2)=nv (rdv (sv a) (ss 3 a))%nv (rdv (sv b) (ss 3 b))/\Canon (dg zx.1)/\Canon (dg zx.2)))
set_option maxRecDepth 100000 in
set_option maxHeartbeats 2000000 in
theorem ref1_Div_vc (a b:Row):ref1_Div_A a b (fun za zh zv zu zp=>codeW Try.prog 57 none 2000 none (bodyOf Try.f202) (.reg [S0,S0] (.reg [S0, .eq (f_len), .specw [] [20] (F_make 3 (.int .i64 0)),S0] (.reg [S0] (.reg [S0, .eq (f_len), .gen [] (fun vs=>Sx.one (.int .i64 (ci (varg vs 0) - ci (varg vs 1))) vs),S0] (.inv (Nat×Row×Row) (fun zx=> [(0,sv a),(1,sv b),(6,sv zx.2.1),(7,sv zx.2.2),(8, .int .i64 (((zx.1:Nat):Int) - 1))]) (fun zx=> [(0,(ss 3 a)),(1,(ss 3 b)),(20,(ss 3 zx.2.1)),(22,(ss 3 zx.2.2))]) (fun zx=>DivO (dg a) (dg b) zx.1 (dg zx.2.1) (dg zx.2.2)/\RowOK zx.2.1/\RowOK zx.2.2) (fun zx=>zx.1) (fun x2=> .reg [S0,S0] (.cond (.reg [S0] (.inv (Nat×Row×Row) (fun zx=> [(0,sv a),(1,sv b),(6,sv zx.2.1),(7,sv zx.2.2),(8, .int .i64 (((x2.1:Nat):Int) - 1)),(9, .int .i64 (un zx.1))]) (fun zx=> [(0,(ss 3 a)),(1,(ss 3 b)),(20,(ss 3 zx.2.1)),(22,(ss 3 zx.2.2))]) (fun zx=>DivN (dg a) (dg b) (x2.1 - 1) zx.1 (dg zx.2.1) (dg zx.2.2)/\RowOK zx.2.1/\RowOK zx.2.2) (fun zx=>zx.1) (fun x3=> .reg [S0,S0] (.cond (.reg [S0,S0, .callw [22] [21,22] ref1_Add2_C,S0] (.reg [S0,S0, .eq (f_idx), .specr [0] F_get,S0, .eq (fun vs=> .int .i64 (ci (varg vs 0)/ci (varg vs 1))), .gen [] (fun vs=>Sx.one (.int .i64 (ci (varg vs 0)%2)) vs),S0] (.cond (.reg [S0, .sem [.nw 3], .callw [22,3] [21,3,22] ref1_Add_C,S0] (.reg [S0,S0, .callr [22,1] ref1_Cmp_C,S0] (.cond (.reg [S0,S0, .callw [22,1] [21,1,22] ref1_Sub_C,S0] (.reg [S0,S0,S0,S0, .eq (f_idx), .specr [20] F_get,S0, .gen [] (fun vs=>Sx.one (.int .i64 (ci (varg vs 0)+ci (varg vs 1))) vs), .eq (f_idx), .specw [20] [20] F_put] (.reg [S0, .gen [] (fun vs=>Sx.one (.int .i64 (ci (varg vs 0)/2)) vs),S0] (.done)))) (.reg [S0, .gen [] (fun vs=>Sx.one (.int .i64 (ci (varg vs 0)/2)) vs),S0] (.done))))) (.reg [S0,S0, .callr [22,1] ref1_Cmp_C,S0] (.cond (.reg [S0,S0, .callw [22,1] [21,1,22] ref1_Sub_C,S0] (.reg [S0,S0,S0,S0, .eq (f_idx), .specr [20] F_get,S0, .gen [] (fun vs=>Sx.one (.int .i64 (ci (varg vs 0)+ci (varg vs 1))) vs), .eq (f_idx), .specw [20] [20] F_put] (.reg [S0, .gen [] (fun vs=>Sx.one (.int .i64 (ci (varg vs 0)/2)) vs),S0] (.done)))) (.reg [S0, .gen [] (fun vs=>Sx.one (.int .i64 (ci (varg vs 0)/2)) vs),S0] (.done))))))) (.reg [S0, .gen [] (fun vs=>Sx.one (.int .i64 (ci (varg vs 0) - ci (varg vs 1))) vs),S0] (.done)))))) (.reg [S0, .callw [20] [20] ref1_Trim_C,S0,S0,S0] (.done)))))))))
    (init za zh) (finW Try.prog Try.f202 [] [0,1,20,22] (X:=Row×Row) zv zu zp))=
    ((PureRun Try.prog (vS (Builtin.len_ #[173] 3 #[sv a])) (.int .i64 ((vlen (sv a):Nat):Int)))/\opQ Try.prog (vS (Instr.makeSlice 173 (.int .i64 ((vlen (sv a):Nat):Int)) (.int .i64 ((vlen (sv a):Nat):Int)))) [] Row (fun zx=>sv zx) (fun zx=> [(ss 3 zx)]) (fun zx=>vals zx=List.replicate (Int.toNat ((vlen (sv a):Nat):Int)) (.int .i64 0)) (fun x1=>(PureRun Try.prog (vS (Builtin.len_ #[173] 3 #[sv a])) (.int .i64 ((vlen (sv a):Nat):Int)))/\(∃_:Unit,True/\Value.int .i64 (IntKind.i64.wrap (((vlen (sv a):Nat):Int) - 1))= .int .i64 (((vlen (sv a):Nat):Int) - 1))/\ ∀_:Unit,(True)->(∃zx:Nat×Row×Row,(DivO (dg a) (dg b) zx.1 (dg zx.2.1) (dg zx.2.2)/\RowOK zx.2.1/\RowOK zx.2.2)/\sv a=sv a/\sv b=sv b/\sv x1=sv zx.2.1/\Value.slice none 0 0=sv zx.2.2/\Value.int .i64 (((vlen (sv a):Nat):Int) - 1)= .int .i64 (((zx.1:Nat):Int) - 1)/\(ss 3 a)=(ss 3 a)/\(ss 3 b)=(ss 3 b)/\(ss 3 x1)=(ss 3 zx.2.1)/\Slot.free=(ss 3 zx.2.2)/\True)/\ ∀x2:Nat×Row×Row,∀jx2:Nat->Value,(DivO (dg a) (dg b) x2.1 (dg x2.2.1) (dg x2.2.2)/\RowOK x2.2.1/\RowOK x2.2.2)->((decide ((((x2.1:Nat):Int) - 1)≥(0:Int)))=true->(∃zx:Nat×Row×Row,(DivN (dg a) (dg b) (x2.1 - 1) zx.1 (dg zx.2.1) (dg zx.2.2)/\RowOK zx.2.1/\RowOK zx.2.2)/\sv a=sv a/\sv b=sv b/\sv x2.2.1=sv zx.2.1/\sv x2.2.2=sv zx.2.2/\Value.int .i64 (((x2.1:Nat):Int) - 1)= .int .i64 (((x2.1:Nat):Int) - 1)/\Value.int .i64 32768= .int .i64 (un zx.1)/\(ss 3 a)=(ss 3 a)/\(ss 3 b)=(ss 3 b)/\(ss 3 x2.2.1)=(ss 3 zx.2.1)/\(ss 3 x2.2.2)=(ss 3 zx.2.2)/\True)/\ ∀x3:Nat×Row×Row,∀jx3:Nat->Value,(DivN (dg a) (dg b) (x2.1 - 1) x3.1 (dg x3.2.1) (dg x3.2.2)/\RowOK x3.2.1/\RowOK x3.2.2)->((decide ((un x3.1)>(0:Int)))=true->ref1_Add2_K x3.2.2 (fun x4=>(PureRun Try.prog (vS (Instr.indexAt 173 (sv a) (.int .i64 (((x2.1:Nat):Int) - 1)))) (.pointer (some ⟨(vblk (sv a)),(Int.toNat (((x2.1:Nat):Int) - 1)),none⟩)))/\opQr Try.prog (vS (Instr.loadAt 3 (.pointer (some ⟨(vblk (sv a)),(Int.toNat (((x2.1:Nat):Int) - 1)),none⟩)))) [(ss 3 a)] Int (fun zx=> .int .i64 zx) (fun zx=>(scells (ss 3 a))[(Int.toNat (((x2.1:Nat):Int) - 1))]? =some (.int .i64 zx)) (fun x5=>(PureRun Try.prog (xBin .quo 3 (.int .i64 x5) (.int .i64 (un x3.1))) (.int .i64 (x5/(un x3.1))))/\(∃_:Unit,True/\Value.int .i64 (Int.tmod (x5/(un x3.1)) 2)= .int .i64 ((x5/(un x3.1))%2))/\ ∀_:Unit,(True)->((((x5/(un x3.1))%2)==(1:Int))=true-> ∀b6:Nat,ref1_Add_K x4 (Row.mk b6 [.int .i64 1] []) (fun x7=>ref1_Cmp_K x7 b (fun x8=>((decide (x8≥(0:Int)))=true->ref1_Sub_K x7 b (fun x9=>(PureRun Try.prog (vS (Instr.indexAt 173 (sv x3.2.1) (.int .i64 (((x2.1:Nat):Int) - 1)))) (.pointer (some ⟨(vblk (sv x3.2.1)),(Int.toNat (((x2.1:Nat):Int) - 1)),none⟩)))/\opQr Try.prog (vS (Instr.loadAt 3 (.pointer (some ⟨(vblk (sv x3.2.1)),(Int.toNat (((x2.1:Nat):Int) - 1)),none⟩)))) [(ss 3 x3.2.1)] Int (fun zx=> .int .i64 zx) (fun zx=>(scells (ss 3 x3.2.1))[(Int.toNat (((x2.1:Nat):Int) - 1))]? =some (.int .i64 zx)) (fun x10=>(∃_:Unit,True/\Value.int .i64 (IntKind.i64.wrap (x10+(un x3.1)))= .int .i64 (x10+(un x3.1)))/\ ∀_:Unit,(True)->(PureRun Try.prog (vS (Instr.indexAt 173 (sv x3.2.1) (.int .i64 (((x2.1:Nat):Int) - 1)))) (.pointer (some ⟨(vblk (sv x3.2.1)),(Int.toNat (((x2.1:Nat):Int) - 1)),none⟩)))/\opQ Try.prog (skS (Instr.storeAt 3 (.pointer (some ⟨(vblk (sv x3.2.1)),(Int.toNat (((x2.1:Nat):Int) - 1)),none⟩)) (.int .i64 (x10+(un x3.1))))) [(ss 3 x3.2.1)] Unit (fun _=> .tuple #[]) (fun _=> [(sset (ss 3 x3.2.1) (Int.toNat (((x2.1:Nat):Int) - 1)) (.int .i64 (x10+(un x3.1))))]) (fun _=>True) (fun _=>(∃_:Unit,True/\Value.int .i64 (IntKind.i64.wrap (Int.tdiv (un x3.1) 2))= .int .i64 ((un x3.1)/2))/\ ∀_:Unit,(True)-> ∃zy:Nat×Row×Row,(DivN (dg a) (dg b) (x2.1 - 1) zy.1 (dg zy.2.1) (dg zy.2.2)/\RowOK zy.2.1/\RowOK zy.2.2)/\zy.1<x3.1/\sv a=sv a/\sv b=sv b/\sv x3.2.1=sv zy.2.1/\sv x9=sv zy.2.2/\Value.int .i64 (((x2.1:Nat):Int) - 1)= .int .i64 (((x2.1:Nat):Int) - 1)/\Value.int .i64 ((un x3.1)/2)= .int .i64 (un zy.1)/\(ss 3 a)=(ss 3 a)/\(ss 3 b)=(ss 3 b)/\(sset (ss 3 x3.2.1) (Int.toNat (((x2.1:Nat):Int) - 1)) (.int .i64 (x10+(un x3.1))))=(ss 3 zy.2.1)/\(ss 3 x9)=(ss 3 zy.2.2)/\True))))/\((decide (x8≥(0:Int)))=false->(∃_:Unit,True/\Value.int .i64 (IntKind.i64.wrap (Int.tdiv (un x3.1) 2))= .int .i64 ((un x3.1)/2))/\ ∀_:Unit,(True)-> ∃zy:Nat×Row×Row,(DivN (dg a) (dg b) (x2.1 - 1) zy.1 (dg zy.2.1) (dg zy.2.2)/\RowOK zy.2.1/\RowOK zy.2.2)/\zy.1<x3.1/\sv a=sv a/\sv b=sv b/\sv x3.2.1=sv zy.2.1/\sv x7=sv zy.2.2/\Value.int .i64 (((x2.1:Nat):Int) - 1)= .int .i64 (((x2.1:Nat):Int) - 1)/\Value.int .i64 ((un x3.1)/2)= .int .i64 (un zy.1)/\(ss 3 a)=(ss 3 a)/\(ss 3 b)=(ss 3 b)/\(ss 3 x3.2.1)=(ss 3 zy.2.1)/\(ss 3 x7)=(ss 3 zy.2.2)/\True))))/\((((x5/(un x3.1))%2)==(1:Int))=false->ref1_Cmp_K x4 b (fun x11=>((decide (x11≥(0:Int)))=true->ref1_Sub_K x4 b (fun x12=>(PureRun Try.prog (vS (Instr.indexAt 173 (sv x3.2.1) (.int .i64 (((x2.1:Nat):Int) - 1)))) (.pointer (some ⟨(vblk (sv x3.2.1)),(Int.toNat (((x2.1:Nat):Int) - 1)),none⟩)))/\opQr Try.prog (vS (Instr.loadAt 3 (.pointer (some ⟨(vblk (sv x3.2.1)),(Int.toNat (((x2.1:Nat):Int) - 1)),none⟩)))) [(ss 3 x3.2.1)] Int (fun zx=> .int .i64 zx) (fun zx=>(scells (ss 3 x3.2.1))[(Int.toNat (((x2.1:Nat):Int) - 1))]? =some (.int .i64 zx)) (fun x13=>(∃_:Unit,True/\Value.int .i64 (IntKind.i64.wrap (x13+(un x3.1)))= .int .i64 (x13+(un x3.1)))/\ ∀_:Unit,(True)->(PureRun Try.prog (vS (Instr.indexAt 173 (sv x3.2.1) (.int .i64 (((x2.1:Nat):Int) - 1)))) (.pointer (some ⟨(vblk (sv x3.2.1)),(Int.toNat (((x2.1:Nat):Int) - 1)),none⟩)))/\opQ Try.prog (skS (Instr.storeAt 3 (.pointer (some ⟨(vblk (sv x3.2.1)),(Int.toNat (((x2.1:Nat):Int) - 1)),none⟩)) (.int .i64 (x13+(un x3.1))))) [(ss 3 x3.2.1)] Unit (fun _=> .tuple #[]) (fun _=> [(sset (ss 3 x3.2.1) (Int.toNat (((x2.1:Nat):Int) - 1)) (.int .i64 (x13+(un x3.1))))]) (fun _=>True) (fun _=>(∃_:Unit,True/\Value.int .i64 (IntKind.i64.wrap (Int.tdiv (un x3.1) 2))= .int .i64 ((un x3.1)/2))/\ ∀_:Unit,(True)-> ∃zy:Nat×Row×Row,(DivN (dg a) (dg b) (x2.1 - 1) zy.1 (dg zy.2.1) (dg zy.2.2)/\RowOK zy.2.1/\RowOK zy.2.2)/\zy.1<x3.1/\sv a=sv a/\sv b=sv b/\sv x3.2.1=sv zy.2.1/\sv x12=sv zy.2.2/\Value.int .i64 (((x2.1:Nat):Int) - 1)= .int .i64 (((x2.1:Nat):Int) - 1)/\Value.int .i64 ((un x3.1)/2)= .int .i64 (un zy.1)/\(ss 3 a)=(ss 3 a)/\(ss 3 b)=(ss 3 b)/\(sset (ss 3 x3.2.1) (Int.toNat (((x2.1:Nat):Int) - 1)) (.int .i64 (x13+(un x3.1))))=(ss 3 zy.2.1)/\(ss 3 x12)=(ss 3 zy.2.2)/\True))))/\((decide (x11≥(0:Int)))=false->(∃_:Unit,True/\Value.int .i64 (IntKind.i64.wrap (Int.tdiv (un x3.1) 2))= .int .i64 ((un x3.1)/2))/\ ∀_:Unit,(True)-> ∃zy:Nat×Row×Row,(DivN (dg a) (dg b) (x2.1 - 1) zy.1 (dg zy.2.1) (dg zy.2.2)/\RowOK zy.2.1/\RowOK zy.2.2)/\zy.1<x3.1/\sv a=sv a/\sv b=sv b/\sv x3.2.1=sv zy.2.1/\sv x4=sv zy.2.2/\Value.int .i64 (((x2.1:Nat):Int) - 1)= .int .i64 (((x2.1:Nat):Int) - 1)/\Value.int .i64 ((un x3.1)/2)= .int .i64 (un zy.1)/\(ss 3 a)=(ss 3 a)/\(ss 3 b)=(ss 3 b)/\(ss 3 x3.2.1)=(ss 3 zy.2.1)/\(ss 3 x4)=(ss 3 zy.2.2)/\True))))))/\((decide ((un x3.1)>(0:Int)))=false->(∃_:Unit,True/\Value.int .i64 (IntKind.i64.wrap ((((x2.1:Nat):Int) - 1) - 1))= .int .i64 ((((x2.1:Nat):Int) - 1) - 1))/\ ∀_:Unit,(True)-> ∃zy:Nat×Row×Row,(DivO (dg a) (dg b) zy.1 (dg zy.2.1) (dg zy.2.2)/\RowOK zy.2.1/\RowOK zy.2.2)/\zy.1<x2.1/\sv a=sv a/\sv b=sv b/\sv x3.2.1=sv zy.2.1/\sv x3.2.2=sv zy.2.2/\Value.int .i64 ((((x2.1:Nat):Int) - 1) - 1)= .int .i64 (((zy.1:Nat):Int) - 1)/\(ss 3 a)=(ss 3 a)/\(ss 3 b)=(ss 3 b)/\(ss 3 x3.2.1)=(ss 3 zy.2.1)/\(ss 3 x3.2.2)=(ss 3 zy.2.2)/\True))/\((decide ((((x2.1:Nat):Int) - 1)≥(0:Int)))=false->ref1_Trim_K x2.2.1 (fun x14=>ref1_Div_Q a b (Value.tuple #[sv x14,sv x2.2.2]) (ss 3 a) (ss 3 b) (ss 3 x14) (ss 3 x2.2.2))))):=by kernel_rfl
set_option maxRecDepth 100000 in
set_option maxHeartbeats 2000000 in
theorem ref1_Div (a b : Row) (r_a : RowOK a) (r_b : RowOK b) (la : (dg a).length <= 65000) (lb : (dg b).length <= 65000) (hb : 0 < nv (dg b)) : ref1_Div_A a b (fun za zh zv zu zp => CallT Try.prog 202 za zh (Row × Row) zv zu zp) := by
  refine call_of (c:=bodyOf Try.f202) (n:=57) (fn:=Try.f202) Try.mixed Try.func202 (by kernel_rfl) (by kernel_rfl) (by kernel_rfl) 2000 _ [] [0,1,20,22] rfl rfl (Eq.mpr (ref1_Div_vc a b) ?_)
  have d_a:=rdv_eq a 3
  have d_b:=rdv_eq b 3
  have e_a:=vlen_dg a
  have e_b:=vlen_dg b
  refine ⟨xlen Try.sl173 3 a,opQ_mk (xmake Try.sl173 .i64 ((vlen (sv a):Nat):Int) (by omega) (by omega)) (wit_make (e:=3) _ _) fun x1 h1=>⟨xlen Try.sl173 3 a,⟨(),trivial,congrArg (Value.int .i64) (wrap_i64 _ (by omega) (by omega))⟩,fun _=>fun _=>⟨?_,fun x2 jx2 h2=> ?_⟩⟩⟩
  · have q:=RowOK.zeros (y:=x1) (by assumption)
    have eq:Int.toNat ((vlen (sv a):Nat):Int)=(dg a).length:=by omega
    rw [eq] at q
    exact ⟨((dg a).length,x1,Row.nil),⟨by rw [q.2];exact div_start _ _ hb,q.1,RowOK.nil⟩,rfl,rfl,rfl,rfl,congrArg (Value.int .i64) (by dsimp only;omega),rfl,rfl,rfl,rfl,trivial⟩
  obtain ⟨D,okq,okl⟩:=h2
  have l1:=D.le;have l2:=D.len
  have da:=r_a.dig.dgt (Int.toNat (((x2.1:Nat):Int) - 1))
  refine ⟨fun h3=> ?_,fun h3=> ?_⟩
  · refine ⟨?_, fun x3 jx3 h4 => ?_⟩
    · have D' :DivO (dg a) (dg b) (x2.1 - 1+1) (dg x2.2.1) (dg x2.2.2):=by
        rw [show x2.1 - 1+1=x2.1 from by simp only [decide_eq_true_eq,decide_eq_false_iff_not,gt_iff_lt,ge_iff_le,beq_iff_eq,beq_eq_false_iff_ne] at *;omega];exact D
      exact ⟨(16,x2.2),⟨divn_start r_a.dig okq.dig D',okq,okl⟩,rfl,rfl,rfl,rfl,rfl,rfl,rfl,rfl,rfl,rfl,trivial⟩
    obtain ⟨N,okq',okl'⟩:=h4
    have k16:=N.k16;have n2:=N.len;have n3:=N.lt;have n4:=N.li
    obtain ⟨u0,u1,u2⟩:=un_range k16
    have et:Int.toNat (((x2.1:Nat):Int) - 1)=x2.1 - 1:=by omega
    have ll:=canon_lt okl'.dig N.canon r_b.dig n3
    have da:=r_a.dig.dgt (x2.1 - 1)
    have dq:=okq'.dig.dgt (x2.1 - 1)
    refine ⟨fun h5=> ?_,fun h5=> ?_⟩
    · have hi:0<x2.1:=by
        simp only [decide_eq_true_eq,decide_eq_false_iff_not,gt_iff_lt,ge_iff_le,beq_iff_eq,beq_eq_false_iff_ne] at *
        omega
      have hk:0<x3.1:=by
        simp only [decide_eq_true_eq,decide_eq_false_iff_not,gt_iff_lt,ge_iff_le,beq_iff_eq,beq_eq_false_iff_ne] at *
        omega
      have hnz:un x3.1≠0:=by omega
      refine ref1_Add2_m x3.2.2 (fun x4 rh6_ h6=> ?_)
      have A1:=h6
      have lA1:(dg x4).length<=(dg b).length+3:=canon_len2 (RowOK.dig (by assumption)) A1.2 r_b.dig (by rw [A1.1];omega)
      have da' :=r_a.dig.dgt (Int.toNat (((x2.1:Nat):Int) - 1))
      refine ⟨xidx Try.sl173 a .i64 (((x2.1:Nat):Int) - 1) (by omega) (by rw [←dg_len];omega),opQr_mk (xgetR (e:=3) a 3 Try.agg3 (Int.toNat (((x2.1:Nat):Int) - 1)) r_a (by omega)) (wit_get (e:=3) a (Int.toNat (((x2.1:Nat):Int) - 1)) r_a (by omega)) fun x5 h7=> ?_⟩
      replace h7:=getR (e:=3) a (Int.toNat (((x2.1:Nat):Int) - 1)) r_a (by omega) h7
      refine ⟨PureRun.to (xquo (hnz)) (congrArg (Value.int .i64) (quo_un k16 hk (by omega) (by omega))),⟨(),trivial,congrArg (Value.int .i64) (tmod_nat (Int.ediv_nonneg (by omega) u0))⟩,fun _=>fun _=>⟨fun h8=> ?_,fun h8=> ?_⟩⟩
      · intro b6
        refine ref1_Add_m x4 (Row.mk b6 [.int .i64 1] []) (fun x7 rh9_ h9=> ?_) (r_b:=rowOK_lit b6 [1] (by decide)) (lb:=Nat.le_of_ble_eq_true rfl)
        have A2:=h9
        have lA2:(dg x7).length<=(dg b).length+3:=canon_len2 (RowOK.dig (by assumption)) A2.2 r_b.dig (by rw [A2.1,A1.1,show nv (dg (Row.mk _ [Value.int .i64 1] []))=1 from rfl];omega)
        refine ref1_Cmp_m x7 b (fun x8 h10=> ?_)
        have hC:=h10
        refine ⟨fun h11=> ?_,fun h11=> ?_⟩
        · have hge:=hCmp_ge hC (of_decide_eq_true (by assumption))
          refine ref1_Sub_m x7 b (fun x9 rh12_ h12=> ?_) (hle:=hCmp_ge hC (of_decide_eq_true (by assumption)))
          have S1:=h12
          have dq' :=okq'.dig.dgt (Int.toNat (((x2.1:Nat):Int) - 1))
          refine ⟨xidx Try.sl173 x3.2.1 .i64 (((x2.1:Nat):Int) - 1) (by omega) (by rw [←dg_len];omega),opQr_mk (xgetR (e:=3) x3.2.1 3 Try.agg3 (Int.toNat (((x2.1:Nat):Int) - 1)) okq' (by omega)) (wit_get (e:=3) x3.2.1 (Int.toNat (((x2.1:Nat):Int) - 1)) okq' (by omega)) fun x10 h13=> ?_⟩
          replace h13:=getR (e:=3) x3.2.1 (Int.toNat (((x2.1:Nat):Int) - 1)) okq' (by omega) h13
          refine ⟨⟨(),trivial,congrArg (Value.int .i64) (wrap_i64 _ (by omega) (by omega))⟩,fun _=>fun _=>⟨xidx Try.sl173 x3.2.1 .i64 (((x2.1:Nat):Int) - 1) (by omega) (by rw [←dg_len];omega),opQ_mk (xput (e:=3) x3.2.1 3 Try.size3 (Int.toNat (((x2.1:Nat):Int) - 1)) (.int .i64 (x10+(un x3.1))) rfl rfl (by rw [←dg_len];omega)) (⟨(),trivial⟩) fun _ _=>⟨⟨(),trivial,congrArg (Value.int .i64) (quo2_i64 u0 (by omega))⟩,fun _=>fun _=> ?_⟩⟩⟩
          have hx0:0<x3.1:=by
            simp only [decide_eq_true_eq,decide_eq_false_iff_not,gt_iff_lt,ge_iff_le,beq_iff_eq,beq_eq_false_iff_ne] at *
            omega
          obtain ⟨m,hm⟩: ∃m,x3.1=m+1:=⟨x3.1 - 1,by omega⟩
          have hu:un x3.1=2^m:=by rw [hm];exact un_succ (by omega)
          have hh:un x3.1/2=un m:=by rw [hm];exact un_half (by omega)
          have N' :DivN (dg a) (dg b) (x2.1 - 1) (m+1) (dg x3.2.1) (dg x3.2.2):=hm▸N
          have hbit:dgt (dg a) (x2.1 - 1)/2^m%2=1:=by
            have hb2:=Int.emod_two_eq (dgt (dg a) (x2.1 - 1)/2^m)
            rw [←hu] at hb2 ⊢
            have hz:=eq_of_beq h8
            rw [h7,et] at hz
            omega
          have hM:nv (dg x7)=2*nv (dg x3.2.2)+dgt (dg a) (x2.1 - 1)/2^m%2:=by
            rw [hbit]
            rw [A2.1,A1.1,show nv (dg (Row.mk _ [Value.int .i64 1] []))=1 from rfl];omega
          have hge:nv (dg b)<=nv (dg x7):=hCmp_ge hC (of_decide_eq_true h11)
          have q1:=divn_yes hb N' hM S1.1 S1.2
          have hr:=divn_room okq'.dig N'
          have p:=okq'.set (x2.1 - 1) hr.1 hr.2
          rw [←p.2] at q1
          exact ⟨(m,x3.2.1.set (x2.1 - 1) (.int .i64 (dgt (dg x3.2.1) (x2.1 - 1)+2^m)),x9),⟨q1,p.1,by assumption⟩,by dsimp only;omega,rfl,rfl,(sv_set _ _ _).symm,rfl,rfl,congrArg (Value.int .i64) hh,rfl,rfl,by rw [et,hu,h13,et];exact ss_set _ _ _ _ (by rw [←dg_len];omega),rfl,trivial⟩
        refine ⟨⟨(),trivial,congrArg (Value.int .i64) (quo2_i64 u0 (by omega))⟩,fun _=>fun _=> ?_⟩
        have hx0:0<x3.1:=by
          simp only [decide_eq_true_eq,decide_eq_false_iff_not,gt_iff_lt,ge_iff_le,beq_iff_eq,beq_eq_false_iff_ne] at *
          omega
        obtain ⟨m,hm⟩: ∃m,x3.1=m+1:=⟨x3.1 - 1,by omega⟩
        have hu:un x3.1=2^m:=by rw [hm];exact un_succ (by omega)
        have hh:un x3.1/2=un m:=by rw [hm];exact un_half (by omega)
        have N' :DivN (dg a) (dg b) (x2.1 - 1) (m+1) (dg x3.2.1) (dg x3.2.2):=hm▸N
        have hbit:dgt (dg a) (x2.1 - 1)/2^m%2=1:=by
          have hb2:=Int.emod_two_eq (dgt (dg a) (x2.1 - 1)/2^m)
          rw [←hu] at hb2 ⊢
          have hz:=eq_of_beq h8
          rw [h7,et] at hz
          omega
        have hM:nv (dg x7)=2*nv (dg x3.2.2)+dgt (dg a) (x2.1 - 1)/2^m%2:=by
          rw [hbit]
          rw [A2.1,A1.1,show nv (dg (Row.mk _ [Value.int .i64 1] []))=1 from rfl];omega
        have hlt:nv (dg x7)<nv (dg b):=hCmp_nge hC (of_decide_eq_false h11)
        have q1:=divn_no N' hM A2.2 hlt
        exact ⟨(m,x3.2.1,x7),⟨q1,by assumption,by assumption⟩,by dsimp only;omega,rfl,rfl,rfl,rfl,rfl,congrArg (Value.int .i64) hh,rfl,rfl,rfl,rfl,trivial⟩
      refine ref1_Cmp_m x4 b (fun x11 h14=> ?_)
      have hC:=h14
      refine ⟨fun h15=> ?_,fun h15=> ?_⟩
      · have hge:=hCmp_ge hC (of_decide_eq_true (by assumption))
        refine ref1_Sub_m x4 b (fun x12 rh16_ h16=> ?_) (hle:=hCmp_ge hC (of_decide_eq_true (by assumption)))
        have S1:=h16
        have dq' :=okq'.dig.dgt (Int.toNat (((x2.1:Nat):Int) - 1))
        refine ⟨xidx Try.sl173 x3.2.1 .i64 (((x2.1:Nat):Int) - 1) (by omega) (by rw [←dg_len];omega),opQr_mk (xgetR (e:=3) x3.2.1 3 Try.agg3 (Int.toNat (((x2.1:Nat):Int) - 1)) okq' (by omega)) (wit_get (e:=3) x3.2.1 (Int.toNat (((x2.1:Nat):Int) - 1)) okq' (by omega)) fun x13 h17=> ?_⟩
        replace h17:=getR (e:=3) x3.2.1 (Int.toNat (((x2.1:Nat):Int) - 1)) okq' (by omega) h17
        refine ⟨⟨(),trivial,congrArg (Value.int .i64) (wrap_i64 _ (by omega) (by omega))⟩,fun _=>fun _=>⟨xidx Try.sl173 x3.2.1 .i64 (((x2.1:Nat):Int) - 1) (by omega) (by rw [←dg_len];omega),opQ_mk (xput (e:=3) x3.2.1 3 Try.size3 (Int.toNat (((x2.1:Nat):Int) - 1)) (.int .i64 (x13+(un x3.1))) rfl rfl (by rw [←dg_len];omega)) (⟨(),trivial⟩) fun _ _=>⟨⟨(),trivial,congrArg (Value.int .i64) (quo2_i64 u0 (by omega))⟩,fun _=>fun _=> ?_⟩⟩⟩
        have hx0:0<x3.1:=by
          simp only [decide_eq_true_eq,decide_eq_false_iff_not,gt_iff_lt,ge_iff_le,beq_iff_eq,beq_eq_false_iff_ne] at *
          omega
        obtain ⟨m,hm⟩: ∃m,x3.1=m+1:=⟨x3.1 - 1,by omega⟩
        have hu:un x3.1=2^m:=by rw [hm];exact un_succ (by omega)
        have hh:un x3.1/2=un m:=by rw [hm];exact un_half (by omega)
        have N' :DivN (dg a) (dg b) (x2.1 - 1) (m+1) (dg x3.2.1) (dg x3.2.2):=hm▸N
        have hbit:dgt (dg a) (x2.1 - 1)/2^m%2=0:=by
          have hb2:=Int.emod_two_eq (dgt (dg a) (x2.1 - 1)/2^m)
          rw [←hu] at hb2 ⊢
          have hz:=ne_of_beq_false h8
          rw [h7,et] at hz
          omega
        have hM:nv (dg x4)=2*nv (dg x3.2.2)+dgt (dg a) (x2.1 - 1)/2^m%2:=by
          rw [hbit]
          rw [A1.1];omega
        have hge:nv (dg b)<=nv (dg x4):=hCmp_ge hC (of_decide_eq_true h15)
        have q1:=divn_yes hb N' hM S1.1 S1.2
        have hr:=divn_room okq'.dig N'
        have p:=okq'.set (x2.1 - 1) hr.1 hr.2
        rw [←p.2] at q1
        exact ⟨(m,x3.2.1.set (x2.1 - 1) (.int .i64 (dgt (dg x3.2.1) (x2.1 - 1)+2^m)),x12),⟨q1,p.1,by assumption⟩,by dsimp only;omega,rfl,rfl,(sv_set _ _ _).symm,rfl,rfl,congrArg (Value.int .i64) hh,rfl,rfl,by rw [et,hu,h17,et];exact ss_set _ _ _ _ (by rw [←dg_len];omega),rfl,trivial⟩
      refine ⟨⟨(),trivial,congrArg (Value.int .i64) (quo2_i64 u0 (by omega))⟩,fun _=>fun _=> ?_⟩
      have hx0:0<x3.1:=by
        simp only [decide_eq_true_eq,decide_eq_false_iff_not,gt_iff_lt,ge_iff_le,beq_iff_eq,beq_eq_false_iff_ne] at *
        omega
      obtain ⟨m,hm⟩: ∃m,x3.1=m+1:=⟨x3.1 - 1,by omega⟩
      have hu:un x3.1=2^m:=by rw [hm];exact un_succ (by omega)
      have hh:un x3.1/2=un m:=by rw [hm];exact un_half (by omega)
      have N' :DivN (dg a) (dg b) (x2.1 - 1) (m+1) (dg x3.2.1) (dg x3.2.2):=hm▸N
      have hbit:dgt (dg a) (x2.1 - 1)/2^m%2=0:=by
        have hb2:=Int.emod_two_eq (dgt (dg a) (x2.1 - 1)/2^m)
        rw [←hu] at hb2 ⊢
        have hz:=ne_of_beq_false h8
        rw [h7,et] at hz
        omega
      have hM:nv (dg x4)=2*nv (dg x3.2.2)+dgt (dg a) (x2.1 - 1)/2^m%2:=by
        rw [hbit]
        rw [A1.1];omega
      have hlt:nv (dg x4)<nv (dg b):=hCmp_nge hC (of_decide_eq_false h15)
      have q1:=divn_no N' hM A1.2 hlt
      exact ⟨(m,x3.2.1,x4),⟨q1,by assumption,by assumption⟩,by dsimp only;omega,rfl,rfl,rfl,rfl,rfl,congrArg (Value.int .i64) hh,rfl,rfl,rfl,rfl,trivial⟩
    refine ⟨⟨(),trivial,congrArg (Value.int .i64) (wrap_i64 _ (by omega) (by omega))⟩,fun _=>fun _=> ?_⟩
    have k0:x3.1=0:=by
      simp only [decide_eq_true_eq,decide_eq_false_iff_not,gt_iff_lt,ge_iff_le,beq_iff_eq,beq_eq_false_iff_ne] at *
      omega
    have hpos:0<x2.1:=by
      simp only [decide_eq_true_eq,decide_eq_false_iff_not,gt_iff_lt,ge_iff_le,beq_iff_eq,beq_eq_false_iff_ne] at *
      omega
    rw [k0] at N
    exact ⟨(x2.1 - 1,x3.2),⟨divn_end N,okq',okl'⟩,by dsimp only;omega,rfl,rfl,rfl,rfl,congrArg (Value.int .i64) (by dsimp only;omega),rfl,rfl,rfl,rfl,trivial⟩
  refine ref1_Trim_m x2.2.1 (fun x14 rh18_ h18=> ?_)
  unfold ref1_Div_Q
  have T:TrimR (dg x2.2.1) (dg x14):=by first | exact And.right (by assumption) | assumption
  have hn:x2.1=0:=by
    simp only [decide_eq_true_eq,decide_eq_false_iff_not,gt_iff_lt,ge_iff_le,beq_iff_eq,beq_eq_false_iff_ne] at *
    omega
  rw [hn] at D
  have E:=divo_end okl.dig D
  exact ⟨(x14,x2.2.2),⟨by assumption,okl,by rw [d_a,d_b];exact T.eq.trans E.1,by rw [d_a,d_b];exact E.2,T.canon,D.canon⟩,rfl,rfl,rfl,rfl,rfl,trivial⟩
abbrev ref1_Div_K (a b:Row) (KK:(Row×Row)->Prop):Prop:=ref1_Div_A a b (fun za zh zv zu zp=>callQ Try.prog 202 za zh (Row×Row) zv zu zp KK)
theorem ref1_Div_m (a b:Row) {KK:(Row×Row)->Prop} (kont: ∀zx:Row×Row,RowOK zx.1->RowOK zx.2->(nv (dg zx.1)=nv (dg a)/nv (dg b)/\nv (dg zx.2)=nv (dg a)%nv (dg b)/\Canon (dg zx.1)/\Canon (dg zx.2))->KK zx) (r_a:RowOK a:=by first | assumption | exact rowOK_lit _ _ (by decide)) (r_b:RowOK b:=by first | assumption | exact rowOK_lit _ _ (by decide)) (la:(dg a).length<=65000:=by omega) (lb:(dg b).length<=65000:=by omega) (hb:0<nv (dg b):=by omega):ref1_Div_K a b KK:=callQ_mk (ref1_Div a b r_a r_b la lb hb) (wit_rdiv (by rw [rdv_eq a];exact nv_nonneg (RowOK.dig (r_a))) (by rw [rdv_eq b];omega)) fun zx hz=>by
  simp only [rdv_eq] at hz
  obtain ⟨rhz_1,hz⟩:=hz
  obtain ⟨rhz_2,hz⟩:=hz
  exact kont zx rhz_1 rhz_2 hz
def ref2_Int_C:List Value->List Slot->Ctr:=fun vs hs=>⟨Int×Bool,fun zx=> .tuple #[vI zx.1, .bool zx.2],fun zx=> [(sarg hs 0)],fun zx=>R4 zx.1/\zx=rInt (nv (rdv (varg vs 1) (sarg hs 0)))⟩
abbrev ref2_Int_Q (a:Row) (zv:Value) (zs0:Slot):Prop:= ∃zx:Int×Bool,(R4 zx.1/\zx=rInt (nv (rdv (sv a) (ss 3 a))))/\zv= .tuple #[vI zx.1, .bool zx.2]/\zs0=(ss 3 a)/\True
abbrev ref2_Int_A (a:Row) (zF:SF (Int×Bool)):Prop:=zF #[sv a] [(ss 3 a)] (fun zx=> .tuple #[vI zx.1, .bool zx.2]) (fun zx=> [(ss 3 a)]) (fun zx=>(R4 zx.1/\zx=rInt (nv (rdv (sv a) (ss 3 a)))))
set_option maxRecDepth 100000 in
set_option maxHeartbeats 2000000 in
theorem ref2_Int_vc (a:Row):ref2_Int_A a (fun za zh zv zu zp=>codeW Try.prog 34 none 2000 none (bodyOf Try.f192) (.reg [.sem [.nw 1],S0] (.reg [S0, .callw [0] [0] ref1_Trim_C,S0] (.reg [S0, .eq (f_len),S0] (.cond (.reg [S0, .sem (wrs 4 1),S0] (.done)) (.reg [.sem [.nw 2]] (.reg [S0, .eq (f_len), .gen [] (fun vs=>Sx.one (.int .i64 (ci (varg vs 0) - ci (varg vs 1))) vs),S0] (.inv (Nat×Row×Nat×Nat) (fun zx=> [(0,sv zx.2.1),(4,pp zx.2.2.1 0),(5, .int .i64 (((zx.1:Nat):Int) - 1)),(2,pp zx.2.2.2 0)]) (fun zx=> [(0,(ss 3 zx.2.1)),(2,bk zx.2.2.1 #[uu (lb (dg zx.2.1) zx.1 0),uu (lb (dg zx.2.1) zx.1 1),uu (lb (dg zx.2.1) zx.1 2),uu (lb (dg zx.2.1) zx.1 3)] 25),(1,bk zx.2.2.2 #[uu 0,uu 0,uu 0,uu 0] 25)]) (fun zx=>zx.1<=(dg zx.2.1).length/\RowOK zx.2.1/\TrimR (dg a) (dg zx.2.1)/\ss 3 zx.2.1=ss 3 a/\(dg zx.2.1).length<=16) (fun zx=>zx.1) (fun x4=> .reg [S0,S0] (.cond (.caseP (fun s=>decide (((ci (s.fr 5)))/4=0)) (.reg [S0, .gen [] (fun vs=>Sx.one (.int .i64 0) vs),S0, .gen [] (fun vs=>Sx.one (.int .i64 0) vs),S0, .sem [.rd 2], .gen [] (fun vs=>Sx.one (uu (ci (varg vs 0)*ci (varg vs 1))) vs),S0,S0, .eq (f_idx), .specr [0] F_get, .gen [] (fun vs=>Sx.one (uu (ci (varg vs 0))) vs), .gen [] (fun vs=>Sx.one (uu (ci (varg vs 0)+ci (varg vs 1))) vs),S0, .sem [.wr 2]] (.reg [S0, .gen [] (fun vs=>Sx.one (.int .i64 (ci (varg vs 0) - ci (varg vs 1))) vs),S0] (.done))) (.caseP (fun s=>decide (((ci (s.fr 5)))/4=1)) (.reg [S0, .gen [] (fun vs=>Sx.one (.int .i64 1) vs),S0, .gen [] (fun vs=>Sx.one (.int .i64 1) vs),S0, .sem [.rd 2], .gen [] (fun vs=>Sx.one (uu (ci (varg vs 0)*ci (varg vs 1))) vs),S0,S0, .eq (f_idx), .specr [0] F_get, .gen [] (fun vs=>Sx.one (uu (ci (varg vs 0))) vs), .gen [] (fun vs=>Sx.one (uu (ci (varg vs 0)+ci (varg vs 1))) vs),S0, .sem [.wr 2]] (.reg [S0, .gen [] (fun vs=>Sx.one (.int .i64 (ci (varg vs 0) - ci (varg vs 1))) vs),S0] (.done))) (.caseP (fun s=>decide (((ci (s.fr 5)))/4=2)) (.reg [S0, .gen [] (fun vs=>Sx.one (.int .i64 2) vs),S0, .gen [] (fun vs=>Sx.one (.int .i64 2) vs),S0, .sem [.rd 2], .gen [] (fun vs=>Sx.one (uu (ci (varg vs 0)*ci (varg vs 1))) vs),S0,S0, .eq (f_idx), .specr [0] F_get, .gen [] (fun vs=>Sx.one (uu (ci (varg vs 0))) vs), .gen [] (fun vs=>Sx.one (uu (ci (varg vs 0)+ci (varg vs 1))) vs),S0, .sem [.wr 2]] (.reg [S0, .gen [] (fun vs=>Sx.one (.int .i64 (ci (varg vs 0) - ci (varg vs 1))) vs),S0] (.done))) (.reg [S0, .gen [] (fun vs=>Sx.one (.int .i64 3) vs),S0, .gen [] (fun vs=>Sx.one (.int .i64 3) vs),S0, .sem [.rd 2], .gen [] (fun vs=>Sx.one (uu (ci (varg vs 0)*ci (varg vs 1))) vs),S0,S0, .eq (f_idx), .specr [0] F_get, .gen [] (fun vs=>Sx.one (uu (ci (varg vs 0))) vs), .gen [] (fun vs=>Sx.one (uu (ci (varg vs 0)+ci (varg vs 1))) vs),S0, .sem [.wr 2]] (.reg [S0, .gen [] (fun vs=>Sx.one (.int .i64 (ci (varg vs 0) - ci (varg vs 1))) vs),S0] (.done)))))) (.reg [.sem (rds 4 2), .sem (wrs 4 1),S0] (.done)))))))))))
    (init za zh) (finW Try.prog Try.f192 [.rd 1, .rd 1, .rd 1, .rd 1] [0] (X:=Int×Bool) zv zu zp))=
    (∀b1:Nat,ref1_Trim_K a (fun x2=>(PureRun Try.prog (vS (Builtin.len_ #[173] 3 #[sv x2])) (.int .i64 ((vlen (sv x2):Nat):Int)))/\((decide (((vlen (sv x2):Nat):Int)>(16:Int)))=true->rdQ 4 b1 (rdQ 4 b1 (ref2_Int_Q a (Value.tuple #[.agg #[uu 0,uu 0,uu 0,uu 0], .bool false]) (ss 3 x2))))/\((decide (((vlen (sv x2):Nat):Int)>(16:Int)))=false-> ∀b3:Nat,(PureRun Try.prog (vS (Builtin.len_ #[173] 3 #[sv x2])) (.int .i64 ((vlen (sv x2):Nat):Int)))/\(∃_:Unit,True/\Value.int .i64 (IntKind.i64.wrap (((vlen (sv x2):Nat):Int) - 1))= .int .i64 (((vlen (sv x2):Nat):Int) - 1))/\ ∀_:Unit,(True)->(∃zx:Nat×Row×Nat×Nat,(zx.1<=(dg zx.2.1).length/\RowOK zx.2.1/\TrimR (dg a) (dg zx.2.1)/\ss 3 zx.2.1=ss 3 a/\(dg zx.2.1).length<=16)/\sv x2=sv zx.2.1/\pp b3 0=pp zx.2.2.1 0/\Value.int .i64 (((vlen (sv x2):Nat):Int) - 1)= .int .i64 (((zx.1:Nat):Int) - 1)/\pp b1 0=pp zx.2.2.2 0/\(ss 3 x2)=(ss 3 zx.2.1)/\bk b3 #[uu 0,uu 0,uu 0,uu 0] 25=bk zx.2.2.1 #[uu (lb (dg zx.2.1) zx.1 0),uu (lb (dg zx.2.1) zx.1 1),uu (lb (dg zx.2.1) zx.1 2),uu (lb (dg zx.2.1) zx.1 3)] 25/\bk b1 #[uu 0,uu 0,uu 0,uu 0] 25=bk zx.2.2.2 #[uu 0,uu 0,uu 0,uu 0] 25/\True)/\ ∀x4:Nat×Row×Nat×Nat,∀jx4:Nat->Value,(x4.1<=(dg x4.2.1).length/\RowOK x4.2.1/\TrimR (dg a) (dg x4.2.1)/\ss 3 x4.2.1=ss 3 a/\(dg x4.2.1).length<=16)->((decide ((((x4.1:Nat):Int) - 1)≥(0:Int)))=true->((decide ((((x4.1:Nat):Int) - 1)/4=0))=true->(∃_:Unit,True/\Value.int .i64 (IntKind.i64.wrap (Int.tdiv (((x4.1:Nat):Int) - 1) 4))= .int .i64 0)/\ ∀_:Unit,(True)->(∃_:Unit,True/\Value.int .i64 (IntKind.i64.wrap (Int.tdiv (((x4.1:Nat):Int) - 1) 4))= .int .i64 0)/\ ∀_:Unit,(True)->rdQ 1 x4.2.2.1 ((∃_:Unit,True/\uu (IntKind.u64.wrap ((lb (dg x4.2.1) x4.1 0)*65536))=uu ((lb (dg x4.2.1) x4.1 0)*65536))/\ ∀_:Unit,(True)->(PureRun Try.prog (vS (Instr.indexAt 173 (sv x4.2.1) (.int .i64 (((x4.1:Nat):Int) - 1)))) (.pointer (some ⟨(vblk (sv x4.2.1)),(Int.toNat (((x4.1:Nat):Int) - 1)),none⟩)))/\opQr Try.prog (vS (Instr.loadAt 3 (.pointer (some ⟨(vblk (sv x4.2.1)),(Int.toNat (((x4.1:Nat):Int) - 1)),none⟩)))) [(ss 3 x4.2.1)] Int (fun zx=> .int .i64 zx) (fun zx=>(scells (ss 3 x4.2.1))[(Int.toNat (((x4.1:Nat):Int) - 1))]? =some (.int .i64 zx)) (fun x5=>(∃_:Unit,True/\uu (IntKind.u64.wrap x5)=uu x5)/\ ∀_:Unit,(True)->(∃_:Unit,True/\uu (IntKind.u64.wrap (((lb (dg x4.2.1) x4.1 0)*65536)+x5))=uu (((lb (dg x4.2.1) x4.1 0)*65536)+x5))/\ ∀_:Unit,(True)->rdQ 1 x4.2.2.1 ((∃_:Unit,True/\Value.int .i64 (IntKind.i64.wrap ((((x4.1:Nat):Int) - 1) - 1))= .int .i64 ((((x4.1:Nat):Int) - 1) - 1))/\ ∀_:Unit,(True)-> ∃zy:Nat×Row×Nat×Nat,(zy.1<=(dg zy.2.1).length/\RowOK zy.2.1/\TrimR (dg a) (dg zy.2.1)/\ss 3 zy.2.1=ss 3 a/\(dg zy.2.1).length<=16)/\zy.1<x4.1/\sv x4.2.1=sv zy.2.1/\pp x4.2.2.1 0=pp zy.2.2.1 0/\Value.int .i64 ((((x4.1:Nat):Int) - 1) - 1)= .int .i64 (((zy.1:Nat):Int) - 1)/\pp x4.2.2.2 0=pp zy.2.2.2 0/\(ss 3 x4.2.1)=(ss 3 zy.2.1)/\bk x4.2.2.1 #[uu (((lb (dg x4.2.1) x4.1 0)*65536)+x5),uu (lb (dg x4.2.1) x4.1 1),uu (lb (dg x4.2.1) x4.1 2),uu (lb (dg x4.2.1) x4.1 3)] 25=bk zy.2.2.1 #[uu (lb (dg zy.2.1) zy.1 0),uu (lb (dg zy.2.1) zy.1 1),uu (lb (dg zy.2.1) zy.1 2),uu (lb (dg zy.2.1) zy.1 3)] 25/\bk x4.2.2.2 #[uu 0,uu 0,uu 0,uu 0] 25=bk zy.2.2.2 #[uu 0,uu 0,uu 0,uu 0] 25/\True))))/\((decide ((((x4.1:Nat):Int) - 1)/4=0))=false->((decide ((((x4.1:Nat):Int) - 1)/4=1))=true->(∃_:Unit,True/\Value.int .i64 (IntKind.i64.wrap (Int.tdiv (((x4.1:Nat):Int) - 1) 4))= .int .i64 1)/\ ∀_:Unit,(True)->(∃_:Unit,True/\Value.int .i64 (IntKind.i64.wrap (Int.tdiv (((x4.1:Nat):Int) - 1) 4))= .int .i64 1)/\ ∀_:Unit,(True)->rdQ 1 x4.2.2.1 ((∃_:Unit,True/\uu (IntKind.u64.wrap ((lb (dg x4.2.1) x4.1 1)*65536))=uu ((lb (dg x4.2.1) x4.1 1)*65536))/\ ∀_:Unit,(True)->(PureRun Try.prog (vS (Instr.indexAt 173 (sv x4.2.1) (.int .i64 (((x4.1:Nat):Int) - 1)))) (.pointer (some ⟨(vblk (sv x4.2.1)),(Int.toNat (((x4.1:Nat):Int) - 1)),none⟩)))/\opQr Try.prog (vS (Instr.loadAt 3 (.pointer (some ⟨(vblk (sv x4.2.1)),(Int.toNat (((x4.1:Nat):Int) - 1)),none⟩)))) [(ss 3 x4.2.1)] Int (fun zx=> .int .i64 zx) (fun zx=>(scells (ss 3 x4.2.1))[(Int.toNat (((x4.1:Nat):Int) - 1))]? =some (.int .i64 zx)) (fun x6=>(∃_:Unit,True/\uu (IntKind.u64.wrap x6)=uu x6)/\ ∀_:Unit,(True)->(∃_:Unit,True/\uu (IntKind.u64.wrap (((lb (dg x4.2.1) x4.1 1)*65536)+x6))=uu (((lb (dg x4.2.1) x4.1 1)*65536)+x6))/\ ∀_:Unit,(True)->rdQ 1 x4.2.2.1 ((∃_:Unit,True/\Value.int .i64 (IntKind.i64.wrap ((((x4.1:Nat):Int) - 1) - 1))= .int .i64 ((((x4.1:Nat):Int) - 1) - 1))/\ ∀_:Unit,(True)-> ∃zy:Nat×Row×Nat×Nat,(zy.1<=(dg zy.2.1).length/\RowOK zy.2.1/\TrimR (dg a) (dg zy.2.1)/\ss 3 zy.2.1=ss 3 a/\(dg zy.2.1).length<=16)/\zy.1<x4.1/\sv x4.2.1=sv zy.2.1/\pp x4.2.2.1 0=pp zy.2.2.1 0/\Value.int .i64 ((((x4.1:Nat):Int) - 1) - 1)= .int .i64 (((zy.1:Nat):Int) - 1)/\pp x4.2.2.2 0=pp zy.2.2.2 0/\(ss 3 x4.2.1)=(ss 3 zy.2.1)/\bk x4.2.2.1 #[uu (lb (dg x4.2.1) x4.1 0),uu (((lb (dg x4.2.1) x4.1 1)*65536)+x6),uu (lb (dg x4.2.1) x4.1 2),uu (lb (dg x4.2.1) x4.1 3)] 25=bk zy.2.2.1 #[uu (lb (dg zy.2.1) zy.1 0),uu (lb (dg zy.2.1) zy.1 1),uu (lb (dg zy.2.1) zy.1 2),uu (lb (dg zy.2.1) zy.1 3)] 25/\bk x4.2.2.2 #[uu 0,uu 0,uu 0,uu 0] 25=bk zy.2.2.2 #[uu 0,uu 0,uu 0,uu 0] 25/\True))))/\((decide ((((x4.1:Nat):Int) - 1)/4=1))=false->((decide ((((x4.1:Nat):Int) - 1)/4=2))=true->(∃_:Unit,True/\Value.int .i64 (IntKind.i64.wrap (Int.tdiv (((x4.1:Nat):Int) - 1) 4))= .int .i64 2)/\ ∀_:Unit,(True)->(∃_:Unit,True/\Value.int .i64 (IntKind.i64.wrap (Int.tdiv (((x4.1:Nat):Int) - 1) 4))= .int .i64 2)/\ ∀_:Unit,(True)->rdQ 1 x4.2.2.1 ((∃_:Unit,True/\uu (IntKind.u64.wrap ((lb (dg x4.2.1) x4.1 2)*65536))=uu ((lb (dg x4.2.1) x4.1 2)*65536))/\ ∀_:Unit,(True)->(PureRun Try.prog (vS (Instr.indexAt 173 (sv x4.2.1) (.int .i64 (((x4.1:Nat):Int) - 1)))) (.pointer (some ⟨(vblk (sv x4.2.1)),(Int.toNat (((x4.1:Nat):Int) - 1)),none⟩)))/\opQr Try.prog (vS (Instr.loadAt 3 (.pointer (some ⟨(vblk (sv x4.2.1)),(Int.toNat (((x4.1:Nat):Int) - 1)),none⟩)))) [(ss 3 x4.2.1)] Int (fun zx=> .int .i64 zx) (fun zx=>(scells (ss 3 x4.2.1))[(Int.toNat (((x4.1:Nat):Int) - 1))]? =some (.int .i64 zx)) (fun x7=>(∃_:Unit,True/\uu (IntKind.u64.wrap x7)=uu x7)/\ ∀_:Unit,(True)->(∃_:Unit,True/\uu (IntKind.u64.wrap (((lb (dg x4.2.1) x4.1 2)*65536)+x7))=uu (((lb (dg x4.2.1) x4.1 2)*65536)+x7))/\ ∀_:Unit,(True)->rdQ 1 x4.2.2.1 ((∃_:Unit,True/\Value.int .i64 (IntKind.i64.wrap ((((x4.1:Nat):Int) - 1) - 1))= .int .i64 ((((x4.1:Nat):Int) - 1) - 1))/\ ∀_:Unit,(True)-> ∃zy:Nat×Row×Nat×Nat,(zy.1<=(dg zy.2.1).length/\RowOK zy.2.1/\TrimR (dg a) (dg zy.2.1)/\ss 3 zy.2.1=ss 3 a/\(dg zy.2.1).length<=16)/\zy.1<x4.1/\sv x4.2.1=sv zy.2.1/\pp x4.2.2.1 0=pp zy.2.2.1 0/\Value.int .i64 ((((x4.1:Nat):Int) - 1) - 1)= .int .i64 (((zy.1:Nat):Int) - 1)/\pp x4.2.2.2 0=pp zy.2.2.2 0/\(ss 3 x4.2.1)=(ss 3 zy.2.1)/\bk x4.2.2.1 #[uu (lb (dg x4.2.1) x4.1 0),uu (lb (dg x4.2.1) x4.1 1),uu (((lb (dg x4.2.1) x4.1 2)*65536)+x7),uu (lb (dg x4.2.1) x4.1 3)] 25=bk zy.2.2.1 #[uu (lb (dg zy.2.1) zy.1 0),uu (lb (dg zy.2.1) zy.1 1),uu (lb (dg zy.2.1) zy.1 2),uu (lb (dg zy.2.1) zy.1 3)] 25/\bk x4.2.2.2 #[uu 0,uu 0,uu 0,uu 0] 25=bk zy.2.2.2 #[uu 0,uu 0,uu 0,uu 0] 25/\True))))/\((decide ((((x4.1:Nat):Int) - 1)/4=2))=false->(∃_:Unit,True/\Value.int .i64 (IntKind.i64.wrap (Int.tdiv (((x4.1:Nat):Int) - 1) 4))= .int .i64 3)/\ ∀_:Unit,(True)->(∃_:Unit,True/\Value.int .i64 (IntKind.i64.wrap (Int.tdiv (((x4.1:Nat):Int) - 1) 4))= .int .i64 3)/\ ∀_:Unit,(True)->rdQ 1 x4.2.2.1 ((∃_:Unit,True/\uu (IntKind.u64.wrap ((lb (dg x4.2.1) x4.1 3)*65536))=uu ((lb (dg x4.2.1) x4.1 3)*65536))/\ ∀_:Unit,(True)->(PureRun Try.prog (vS (Instr.indexAt 173 (sv x4.2.1) (.int .i64 (((x4.1:Nat):Int) - 1)))) (.pointer (some ⟨(vblk (sv x4.2.1)),(Int.toNat (((x4.1:Nat):Int) - 1)),none⟩)))/\opQr Try.prog (vS (Instr.loadAt 3 (.pointer (some ⟨(vblk (sv x4.2.1)),(Int.toNat (((x4.1:Nat):Int) - 1)),none⟩)))) [(ss 3 x4.2.1)] Int (fun zx=> .int .i64 zx) (fun zx=>(scells (ss 3 x4.2.1))[(Int.toNat (((x4.1:Nat):Int) - 1))]? =some (.int .i64 zx)) (fun x8=>(∃_:Unit,True/\uu (IntKind.u64.wrap x8)=uu x8)/\ ∀_:Unit,(True)->(∃_:Unit,True/\uu (IntKind.u64.wrap (((lb (dg x4.2.1) x4.1 3)*65536)+x8))=uu (((lb (dg x4.2.1) x4.1 3)*65536)+x8))/\ ∀_:Unit,(True)->rdQ 1 x4.2.2.1 ((∃_:Unit,True/\Value.int .i64 (IntKind.i64.wrap ((((x4.1:Nat):Int) - 1) - 1))= .int .i64 ((((x4.1:Nat):Int) - 1) - 1))/\ ∀_:Unit,(True)-> ∃zy:Nat×Row×Nat×Nat,(zy.1<=(dg zy.2.1).length/\RowOK zy.2.1/\TrimR (dg a) (dg zy.2.1)/\ss 3 zy.2.1=ss 3 a/\(dg zy.2.1).length<=16)/\zy.1<x4.1/\sv x4.2.1=sv zy.2.1/\pp x4.2.2.1 0=pp zy.2.2.1 0/\Value.int .i64 ((((x4.1:Nat):Int) - 1) - 1)= .int .i64 (((zy.1:Nat):Int) - 1)/\pp x4.2.2.2 0=pp zy.2.2.2 0/\(ss 3 x4.2.1)=(ss 3 zy.2.1)/\bk x4.2.2.1 #[uu (lb (dg x4.2.1) x4.1 0),uu (lb (dg x4.2.1) x4.1 1),uu (lb (dg x4.2.1) x4.1 2),uu (((lb (dg x4.2.1) x4.1 3)*65536)+x8)] 25=bk zy.2.2.1 #[uu (lb (dg zy.2.1) zy.1 0),uu (lb (dg zy.2.1) zy.1 1),uu (lb (dg zy.2.1) zy.1 2),uu (lb (dg zy.2.1) zy.1 3)] 25/\bk x4.2.2.2 #[uu 0,uu 0,uu 0,uu 0] 25=bk zy.2.2.2 #[uu 0,uu 0,uu 0,uu 0] 25/\True)))))))/\((decide ((((x4.1:Nat):Int) - 1)≥(0:Int)))=false->rdQ 4 x4.2.2.1 (rdQ 4 x4.2.2.2 (rdQ 4 x4.2.2.2 (ref2_Int_Q a (Value.tuple #[.agg #[uu (lb (dg x4.2.1) x4.1 0),uu (lb (dg x4.2.1) x4.1 1),uu (lb (dg x4.2.1) x4.1 2),uu (lb (dg x4.2.1) x4.1 3)], .bool true]) (ss 3 x4.2.1)))))))):=by kernel_rfl
set_option maxRecDepth 100000 in
set_option maxHeartbeats 2000000 in
theorem ref2_Int (a : Row) (r_a : RowOK a) (la : (dg a).length <= 65000) : ref2_Int_A a (fun za zh zv zu zp => CallT Try.prog 192 za zh (Int × Bool) zv zu zp) := by
  refine call_of (c:=bodyOf Try.f192) (n:=34) (fn:=Try.f192) Try.mixed Try.func192 (by kernel_rfl) (by kernel_rfl) (by kernel_rfl) 2000 _ [.rd 1, .rd 1, .rd 1, .rd 1] [0] rfl rfl (Eq.mpr (ref2_Int_vc a) ?_)
  have d_a:=rdv_eq a 3
  have e_a:=vlen_dg a
  intro b1
  refine ref1_Trim_m a (fun x2 rh1_ h1=> ?_)
  obtain ⟨hs,TR⟩:=h1
  have ok:RowOK x2:=by assumption
  have lz:=TR.len
  have ez:=vlen_dg x2
  refine ⟨xlen Try.sl173 3 x2,⟨fun h2=> ?_,fun h2=> ?_⟩⟩
  · exact rdQ_mk 4 _ (rdQ_mk 4 _ ⟨(0,false),⟨R4_zero,by rw [d_a,←TR.eq];exact (rInt_long ok.dig TR.canon (by simp only [decide_eq_true_eq,decide_eq_false_iff_not,gt_iff_lt,ge_iff_le,beq_iff_eq,beq_eq_false_iff_ne] at *;omega)).symm⟩,by rw [vI_zero],hs,trivial⟩)
  intro b3
  refine ⟨xlen Try.sl173 3 x2,⟨(),trivial,congrArg (Value.int .i64) (wrap_i64 _ (by omega) (by omega))⟩,fun _=>fun _=>⟨?_,fun x4 jx4 h3=> ?_⟩⟩
  · have h16:(dg x2).length<=16:=by
      simp only [decide_eq_true_eq,decide_eq_false_iff_not,gt_iff_lt,ge_iff_le,beq_iff_eq,beq_eq_false_iff_ne] at *
      omega
    exact ⟨((dg x2).length,x2,b3,b1),⟨Nat.le_refl _,ok,TR,hs,h16⟩,rfl,rfl,congrArg (Value.int .i64) (by dsimp only;omega),rfl,rfl,by simp only [lb_top],rfl,trivial⟩
  obtain ⟨hl,ok,TR,hs,h16⟩:=h3
  have lz:=TR.len;have ez:=vlen_dg x4.2.1
  refine ⟨fun h4=> ?_,fun h4=> ?_⟩
  · refine ⟨fun h5=> ?_,fun h5=> ?_⟩
    · have hx:0<x4.1:=by
        simp only [decide_eq_true_eq,decide_eq_false_iff_not,gt_iff_lt,ge_iff_le,beq_iff_eq,beq_eq_false_iff_ne] at *
        omega
      have hq:(((x4.1:Nat):Int) - 1)/4=0:=by
        simp only [decide_eq_true_eq,decide_eq_false_iff_not,gt_iff_lt,ge_iff_le,beq_iff_eq,beq_eq_false_iff_ne] at *
        omega
      have LS:=lb_step ok.dig hx hl (c:=0) (by omega)
      have LW:=LS.2.1;have LX:=LS.2.2.1
      have dz:=ok.dig.dgt (Int.toNat (((x4.1:Nat):Int) - 1))
      have et' :Int.toNat (((x4.1:Nat):Int) - 1)=x4.1 - 1:=by omega
      refine ⟨⟨(),trivial,congrArg (Value.int .i64) (quo4_i64 (by omega) (by omega) hq)⟩,fun _=>fun _=>⟨⟨(),trivial,congrArg (Value.int .i64) (quo4_i64 (by omega) (by omega) hq)⟩,fun _=>fun _=>rdQ_mk 1 _ ⟨⟨(),trivial,congrArg (Value.int .u64) (wrap_W LW)⟩,fun _=>fun _=>⟨xidx Try.sl173 x4.2.1 .i64 (((x4.1:Nat):Int) - 1) (by omega) (by rw [←dg_len];omega),opQr_mk (xgetR (e:=3) x4.2.1 3 Try.agg3 (Int.toNat (((x4.1:Nat):Int) - 1)) ok (by omega)) (wit_get (e:=3) x4.2.1 (Int.toNat (((x4.1:Nat):Int) - 1)) ok (by omega)) fun x5 h6=> ?_⟩⟩⟩⟩
      replace h6:=getR (e:=3) x4.2.1 (Int.toNat (((x4.1:Nat):Int) - 1)) ok (by omega) h6
      refine ⟨⟨(),trivial,congrArg (Value.int .u64) (wrap_W ⟨by omega,by omega⟩)⟩,fun _=>fun _=>⟨⟨(),trivial,congrArg (Value.int .u64) (wrap_W (by rw [h6,et'];exact LX))⟩,fun _=>fun _=>rdQ_mk 1 _ ⟨⟨(),trivial,congrArg (Value.int .i64) (wrap_i64 _ (by omega) (by omega))⟩,fun _=>fun _=> ?_⟩⟩⟩
      have et:Int.toNat (((x4.1:Nat):Int) - 1)=x4.1 - 1:=by omega
      have e0:=LS.1
      have e1:=LS.2.2.2 1 (by decide)
      have e2:=LS.2.2.2 2 (by decide)
      have e3:=LS.2.2.2 3 (by decide)
      exact ⟨(x4.1 - 1,x4.2),⟨by dsimp only;omega,ok,TR,hs,h16⟩,by dsimp only;omega,rfl,rfl,congrArg (Value.int .i64) (by dsimp only;omega),rfl,rfl,by dsimp only;rw [e0,e1,e2,e3,h6,et],rfl,trivial⟩
    refine ⟨fun h7=> ?_,fun h7=> ?_⟩
    · have hx:0<x4.1:=by
        simp only [decide_eq_true_eq,decide_eq_false_iff_not,gt_iff_lt,ge_iff_le,beq_iff_eq,beq_eq_false_iff_ne] at *
        omega
      have hq:(((x4.1:Nat):Int) - 1)/4=1:=by
        simp only [decide_eq_true_eq,decide_eq_false_iff_not,gt_iff_lt,ge_iff_le,beq_iff_eq,beq_eq_false_iff_ne] at *
        omega
      have LS:=lb_step ok.dig hx hl (c:=1) (by omega)
      have LW:=LS.2.1;have LX:=LS.2.2.1
      have dz:=ok.dig.dgt (Int.toNat (((x4.1:Nat):Int) - 1))
      have et' :Int.toNat (((x4.1:Nat):Int) - 1)=x4.1 - 1:=by omega
      refine ⟨⟨(),trivial,congrArg (Value.int .i64) (quo4_i64 (by omega) (by omega) hq)⟩,fun _=>fun _=>⟨⟨(),trivial,congrArg (Value.int .i64) (quo4_i64 (by omega) (by omega) hq)⟩,fun _=>fun _=>rdQ_mk 1 _ ⟨⟨(),trivial,congrArg (Value.int .u64) (wrap_W LW)⟩,fun _=>fun _=>⟨xidx Try.sl173 x4.2.1 .i64 (((x4.1:Nat):Int) - 1) (by omega) (by rw [←dg_len];omega),opQr_mk (xgetR (e:=3) x4.2.1 3 Try.agg3 (Int.toNat (((x4.1:Nat):Int) - 1)) ok (by omega)) (wit_get (e:=3) x4.2.1 (Int.toNat (((x4.1:Nat):Int) - 1)) ok (by omega)) fun x6 h8=> ?_⟩⟩⟩⟩
      replace h8:=getR (e:=3) x4.2.1 (Int.toNat (((x4.1:Nat):Int) - 1)) ok (by omega) h8
      refine ⟨⟨(),trivial,congrArg (Value.int .u64) (wrap_W ⟨by omega,by omega⟩)⟩,fun _=>fun _=>⟨⟨(),trivial,congrArg (Value.int .u64) (wrap_W (by rw [h8,et'];exact LX))⟩,fun _=>fun _=>rdQ_mk 1 _ ⟨⟨(),trivial,congrArg (Value.int .i64) (wrap_i64 _ (by omega) (by omega))⟩,fun _=>fun _=> ?_⟩⟩⟩
      have et:Int.toNat (((x4.1:Nat):Int) - 1)=x4.1 - 1:=by omega
      have e1:=LS.1
      have e0:=LS.2.2.2 0 (by decide)
      have e2:=LS.2.2.2 2 (by decide)
      have e3:=LS.2.2.2 3 (by decide)
      exact ⟨(x4.1 - 1,x4.2),⟨by dsimp only;omega,ok,TR,hs,h16⟩,by dsimp only;omega,rfl,rfl,congrArg (Value.int .i64) (by dsimp only;omega),rfl,rfl,by dsimp only;rw [e0,e1,e2,e3,h8,et],rfl,trivial⟩
    refine ⟨fun h9=> ?_,fun h9=> ?_⟩
    · have hx:0<x4.1:=by
        simp only [decide_eq_true_eq,decide_eq_false_iff_not,gt_iff_lt,ge_iff_le,beq_iff_eq,beq_eq_false_iff_ne] at *
        omega
      have hq:(((x4.1:Nat):Int) - 1)/4=2:=by
        simp only [decide_eq_true_eq,decide_eq_false_iff_not,gt_iff_lt,ge_iff_le,beq_iff_eq,beq_eq_false_iff_ne] at *
        omega
      have LS:=lb_step ok.dig hx hl (c:=2) (by omega)
      have LW:=LS.2.1;have LX:=LS.2.2.1
      have dz:=ok.dig.dgt (Int.toNat (((x4.1:Nat):Int) - 1))
      have et' :Int.toNat (((x4.1:Nat):Int) - 1)=x4.1 - 1:=by omega
      refine ⟨⟨(),trivial,congrArg (Value.int .i64) (quo4_i64 (by omega) (by omega) hq)⟩,fun _=>fun _=>⟨⟨(),trivial,congrArg (Value.int .i64) (quo4_i64 (by omega) (by omega) hq)⟩,fun _=>fun _=>rdQ_mk 1 _ ⟨⟨(),trivial,congrArg (Value.int .u64) (wrap_W LW)⟩,fun _=>fun _=>⟨xidx Try.sl173 x4.2.1 .i64 (((x4.1:Nat):Int) - 1) (by omega) (by rw [←dg_len];omega),opQr_mk (xgetR (e:=3) x4.2.1 3 Try.agg3 (Int.toNat (((x4.1:Nat):Int) - 1)) ok (by omega)) (wit_get (e:=3) x4.2.1 (Int.toNat (((x4.1:Nat):Int) - 1)) ok (by omega)) fun x7 h10=> ?_⟩⟩⟩⟩
      replace h10:=getR (e:=3) x4.2.1 (Int.toNat (((x4.1:Nat):Int) - 1)) ok (by omega) h10
      refine ⟨⟨(),trivial,congrArg (Value.int .u64) (wrap_W ⟨by omega,by omega⟩)⟩,fun _=>fun _=>⟨⟨(),trivial,congrArg (Value.int .u64) (wrap_W (by rw [h10,et'];exact LX))⟩,fun _=>fun _=>rdQ_mk 1 _ ⟨⟨(),trivial,congrArg (Value.int .i64) (wrap_i64 _ (by omega) (by omega))⟩,fun _=>fun _=> ?_⟩⟩⟩
      have et:Int.toNat (((x4.1:Nat):Int) - 1)=x4.1 - 1:=by omega
      have e2:=LS.1
      have e0:=LS.2.2.2 0 (by decide)
      have e1:=LS.2.2.2 1 (by decide)
      have e3:=LS.2.2.2 3 (by decide)
      exact ⟨(x4.1 - 1,x4.2),⟨by dsimp only;omega,ok,TR,hs,h16⟩,by dsimp only;omega,rfl,rfl,congrArg (Value.int .i64) (by dsimp only;omega),rfl,rfl,by dsimp only;rw [e0,e1,e2,e3,h10,et],rfl,trivial⟩
    have hx:0<x4.1:=by
      simp only [decide_eq_true_eq,decide_eq_false_iff_not,gt_iff_lt,ge_iff_le,beq_iff_eq,beq_eq_false_iff_ne] at *
      omega
    have hq:(((x4.1:Nat):Int) - 1)/4=3:=by
      simp only [decide_eq_true_eq,decide_eq_false_iff_not,gt_iff_lt,ge_iff_le,beq_iff_eq,beq_eq_false_iff_ne] at *
      omega
    have LS:=lb_step ok.dig hx hl (c:=3) (by omega)
    have LW:=LS.2.1;have LX:=LS.2.2.1
    have dz:=ok.dig.dgt (Int.toNat (((x4.1:Nat):Int) - 1))
    have et' :Int.toNat (((x4.1:Nat):Int) - 1)=x4.1 - 1:=by omega
    refine ⟨⟨(),trivial,congrArg (Value.int .i64) (quo4_i64 (by omega) (by omega) hq)⟩,fun _=>fun _=>⟨⟨(),trivial,congrArg (Value.int .i64) (quo4_i64 (by omega) (by omega) hq)⟩,fun _=>fun _=>rdQ_mk 1 _ ⟨⟨(),trivial,congrArg (Value.int .u64) (wrap_W LW)⟩,fun _=>fun _=>⟨xidx Try.sl173 x4.2.1 .i64 (((x4.1:Nat):Int) - 1) (by omega) (by rw [←dg_len];omega),opQr_mk (xgetR (e:=3) x4.2.1 3 Try.agg3 (Int.toNat (((x4.1:Nat):Int) - 1)) ok (by omega)) (wit_get (e:=3) x4.2.1 (Int.toNat (((x4.1:Nat):Int) - 1)) ok (by omega)) fun x8 h11=> ?_⟩⟩⟩⟩
    replace h11:=getR (e:=3) x4.2.1 (Int.toNat (((x4.1:Nat):Int) - 1)) ok (by omega) h11
    refine ⟨⟨(),trivial,congrArg (Value.int .u64) (wrap_W ⟨by omega,by omega⟩)⟩,fun _=>fun _=>⟨⟨(),trivial,congrArg (Value.int .u64) (wrap_W (by rw [h11,et'];exact LX))⟩,fun _=>fun _=>rdQ_mk 1 _ ⟨⟨(),trivial,congrArg (Value.int .i64) (wrap_i64 _ (by omega) (by omega))⟩,fun _=>fun _=> ?_⟩⟩⟩
    have et:Int.toNat (((x4.1:Nat):Int) - 1)=x4.1 - 1:=by omega
    have e3:=LS.1
    have e0:=LS.2.2.2 0 (by decide)
    have e1:=LS.2.2.2 1 (by decide)
    have e2:=LS.2.2.2 2 (by decide)
    exact ⟨(x4.1 - 1,x4.2),⟨by dsimp only;omega,ok,TR,hs,h16⟩,by dsimp only;omega,rfl,rfl,congrArg (Value.int .i64) (by dsimp only;omega),rfl,rfl,by dsimp only;rw [e0,e1,e2,e3,h11,et],rfl,trivial⟩
  refine rdQ_mk 4 _ (rdQ_mk 4 _ (rdQ_mk 4 _ ?_))
  unfold ref2_Int_Q
  have hn:x4.1=0:=by
    simp only [decide_eq_true_eq,decide_eq_false_iff_not,gt_iff_lt,ge_iff_le,beq_iff_eq,beq_eq_false_iff_ne] at *
    omega
  have hle:=h16
  have e:=rInt_short ok.dig hle
  exact ⟨rInt (nv (dg a)),⟨rInt_R (nv_nonneg r_a.dig),by rw [d_a]⟩,by rw [←TR.eq,e,hn,lb_vI ok.dig hle],hs,trivial⟩
abbrev ref2_Int_K (a:Row) (KK:(Int×Bool)->Prop):Prop:=ref2_Int_A a (fun za zh zv zu zp=>callQ Try.prog 192 za zh (Int×Bool) zv zu zp KK)
theorem ref2_Int_m (a:Row) {KK:(Int×Bool)->Prop} (kont: ∀zx:Int×Bool,R4 zx.1->(zx=rInt (nv (dg a)))->KK zx) (r_a:RowOK a:=by first | assumption | exact rowOK_lit _ _ (by decide)) (la:(dg a).length<=65000:=by omega):ref2_Int_K a KK:=callQ_mk (ref2_Int a r_a la) (⟨_,rInt_R (by rw [rdv_eq a];exact nv_nonneg (RowOK.dig (r_a))),rfl⟩) fun zx hz=>by
  simp only [rdv_eq] at hz
  obtain ⟨rhz_1,hz⟩:=hz
  exact kont zx rhz_1 hz
def share_more_C:List Value->List Slot->Ctr:=fun vs hs=>⟨Int×Int×Int,fun zx=> .tuple #[vI zx.1,vI zx.2.1, .int .i64 zx.2.2],fun _=>hs,fun zx=>R4 zx.1/\R4 zx.2.1/\zx=sMore (num (varg vs 1)) (num (varg vs 2))⟩
abbrev share_more_Q (a b:Int) (zv:Value) :Prop:= ∃zx:Int×Int×Int,(R4 zx.1/\R4 zx.2.1/\zx=sMore (num (vI a)) (num (vI b)))/\zv= .tuple #[vI zx.1,vI zx.2.1, .int .i64 zx.2.2]/\True
abbrev share_more_A (a b:Int) (zF:SF (Int×Int×Int)):Prop:=zF #[vI a,vI b] [] (fun zx=> .tuple #[vI zx.1,vI zx.2.1, .int .i64 zx.2.2]) (fun zx=> []) (fun zx=>(R4 zx.1/\R4 zx.2.1/\zx=sMore (num (vI a)) (num (vI b))))
set_option maxRecDepth 100000 in
theorem share_more_vc (a b:Int):share_more_A a b (fun za zh zv zu zp=>codeW Try.prog 27 none 2000 none (bodyOf Try.f151) (.reg [.sem [.nw 0], .sem [.nw 1], .sem [.nw 2], .sem [.nw 3],S0] (.reg [.callr [] huge_Of_C, .sem [.nw 4], .sem (wrs 4 4)] (.reg [.sem (rds 4 0), .sem (rds 4 4), .callr [] huge_Add_C,S0,S0,S0, .sem (wrs 4 2),S0] (.reg [.sem (rds 4 1), .sem (rds 4 4), .callr [] huge_Add_C,S0,S0,S0, .sem (wrs 4 3),S0] (.reg [.sem (rds 4 2), .sem (rds 4 3),S0,S0,S0, .sem (wrs 4 2), .sem (wrs 4 3),S0] (.done))))))
    (init za zh) (finW Try.prog Try.f151 [.rd 2, .rd 2, .rd 2, .rd 2, .rd 3, .rd 3, .rd 3, .rd 3] [] (X:=Int×Int×Int) zv zu zp))=
    (∀b1:Nat,∀b2:Nat,∀b3:Nat,∀b4:Nat,huge_Of_K (1:Int) (fun _=> ∀b5:Nat,rdQ 4 b5 (rdQ 4 b1 (rdQ 4 b5 (huge_Add_K a (1:Int) (fun x6=>rdQ 4 b3 (rdQ 4 b2 (rdQ 4 b5 (huge_Add_K b (1:Int) (fun x7=>rdQ 4 b4 (rdQ 4 b3 (rdQ 4 b4 (rdQ 4 b3 (rdQ 4 b4 (rdQ 4 b3 (rdQ 4 b4 (share_more_Q a b (Value.tuple #[vI x6.1,vI x7.1, .int .i64 (if x7.2>x6.2 then x7.2 else x6.2)])))))))))))))))))):=by kernel_rfl
set_option maxRecDepth 100000 in
theorem share_more (a b:Int) (r_a:R4 a) (r_b:R4 b):share_more_A a b (fun za zh zv zu zp=>CallT Try.prog 151 za zh (Int×Int×Int) zv zu zp):=by
  refine call_of (c:=bodyOf Try.f151) (n:=27) (fn:=Try.f151) Try.mixed Try.func151 (by kernel_rfl) (by kernel_rfl) (by kernel_rfl) 2000 _ [.rd 2, .rd 2, .rd 2, .rd 2, .rd 3, .rd 3, .rd 3, .rd 3] [] rfl rfl (Eq.mpr (share_more_vc a b) ?_)
  intro b1
  intro b2
  intro b3
  intro b4
  refine huge_Of_m (1:Int) (fun b5=>rdQ_mk 4 _ (rdQ_mk 4 _ (rdQ_mk 4 _ (huge_Add_m a (1:Int) (fun x6 rh1_1 h1=> ?_) (r_b:=by unfold R4;decide)))))
  have h1:=h1
  refine rdQ_mk 4 _ (rdQ_mk 4 _ (rdQ_mk 4 _ (huge_Add_m b (1:Int) (fun x7 rh2_1 h2=> ?_) (r_b:=by unfold R4;decide))))
  have h2:=h2
  exact rdQ_mk 4 _ (rdQ_mk 4 _ (rdQ_mk 4 _ (rdQ_mk 4 _ (rdQ_mk 4 _ (rdQ_mk 4 _ (rdQ_mk 4 _ ⟨sMore a b,⟨(sMore_R r_a r_b).1,(sMore_R r_a r_b).2,by rw [num_vI r_a,num_vI r_b]⟩,by subst h1 h2;rfl,trivial⟩))))))
abbrev share_more_K (a b:Int) (KK:(Int×Int×Int)->Prop):Prop:=share_more_A a b (fun za zh zv zu zp=>callQr Try.prog 151 za zh (Int×Int×Int) zv zp KK)
theorem share_more_m (a b:Int) {KK:(Int×Int×Int)->Prop} (kont: ∀zx:Int×Int×Int,R4 zx.1->R4 zx.2.1->(zx=sMore a b)->KK zx) (r_a:R4 a:=by assumption) (r_b:R4 b:=by assumption):share_more_K a b KK:=callQr_mk (share_more a b r_a r_b) (⟨_,(sMore_R (by first | exact R4_num _ | exact r_a) (by first | exact R4_num _ | exact r_b)).1,(sMore_R (by first | exact R4_num _ | exact r_a) (by first | exact R4_num _ | exact r_b)).2,rfl⟩) fun zx hz=>by
  obtain ⟨rhz_1,hz⟩:=hz
  obtain ⟨rhz_21,hz⟩:=hz
  try simp only [num_vI (n:=a) r_a,num_vI (n:=b) r_b] at hz
  exact kont zx rhz_1 rhz_21 hz
def ref16_one_C:List Value->List Slot->Ctr:=fun vs hs=>⟨Row,fun zx=>sv zx,fun zx=> [(ss 3 zx)],fun zx=>RowOK zx/\nv (dg zx)=(num (varg vs 1))+1/\Canon (dg zx)/\(dg zx).length<=65⟩
abbrev ref16_one_Q (a:Int) (zv:Value) (zs0:Slot):Prop:= ∃zx:Row,(RowOK zx/\nv (dg zx)=(num (vI a))+1/\Canon (dg zx)/\(dg zx).length<=65)/\zv=sv zx/\zs0=(ss 3 zx)/\True
abbrev ref16_one_A (a:Int) (zF:SF Row):Prop:=zF #[vI a] [] (fun zx=>sv zx) (fun zx=> [(ss 3 zx)]) (fun zx=>(RowOK zx/\nv (dg zx)=(num (vI a))+1/\Canon (dg zx)/\(dg zx).length<=65))
set_option maxRecDepth 100000 in
theorem ref16_one_vc (a:Int):ref16_one_A a (fun za zh zv zu zp=>codeW Try.prog 7 none 2000 none (bodyOf Try.f201) (.reg [.sem [.nw 0],S0] (.reg [.sem (rds 4 0), .callw [] [1] ref2_Row_C, .sem [.nw 2], .callw [1,2] [1,2,30] ref1_Add_C,S0] (.done)))
    (init za zh) (finW Try.prog Try.f201 [] [30] (X:=Row) zv zu zp))=
    (∀b1:Nat,rdQ 4 b1 (ref2_Row_K a (fun x2=> ∀b3:Nat,ref1_Add_K x2 (Row.mk b3 [.int .i64 1] []) (fun x4=>ref16_one_Q a (sv x4) (ss 3 x4))))):=by kernel_rfl
set_option maxRecDepth 100000 in
theorem ref16_one (a:Int) (r_a:R4 a):ref16_one_A a (fun za zh zv zu zp=>CallT Try.prog 201 za zh Row zv zu zp):=by
  refine call_of (c:=bodyOf Try.f201) (n:=7) (fn:=Try.f201) Try.mixed Try.func201 (by kernel_rfl) (by kernel_rfl) (by kernel_rfl) 2000 _ [] [30] rfl rfl (Eq.mpr (ref16_one_vc a) ?_)
  intro b1
  refine rdQ_mk 4 _ (ref2_Row_m a (fun x2 rh1_ h1=> ?_))
  have h1:=h1
  have okh1:RowOK x2:=by assumption
  have eh1:=vlen_dg x2
  have ch1:=canon_pos okh1.dig h1.2.1
  have lh1:=h1.2.2
  intro b3
  refine ref1_Add_m x2 (Row.mk b3 [.int .i64 1] []) (fun x4 rh2_ h2=> ?_) (r_b:=rowOK_lit b3 [1] (by decide)) (lb:=Nat.le_of_ble_eq_true rfl)
  have h2:=h2
  have e:nv (dg x4)=a+1:=by rw [h2.1,h1.1];rfl
  exact ⟨_,⟨by assumption,by rw [num_vI r_a];exact e,h2.2,len41 (RowOK.dig (by assumption)) h2.2 e (R48 r_a)⟩,rfl,rfl,trivial⟩
abbrev ref16_one_K (a:Int) (KK:Row->Prop):Prop:=ref16_one_A a (fun za zh zv zu zp=>callQ Try.prog 201 za zh Row zv zu zp KK)
theorem ref16_one_m (a:Int) {KK:Row->Prop} (kont: ∀zx:Row,RowOK zx->(nv (dg zx)=a+1/\Canon (dg zx)/\(dg zx).length<=65)->KK zx) (r_a:R4 a:=by assumption):ref16_one_K a KK:=callQ_mk (ref16_one a r_a) (wit_one (by first | exact R4_num _ | exact r_a)) fun zx hz=>by
  obtain ⟨rhz_,hz⟩:=hz
  try simp only [num_vI (n:=a) r_a] at hz
  exact kont zx rhz_ hz
def share_In_C:List Value->List Slot->Ctr:=fun vs hs=>⟨Int×Int,fun zx=> .tuple #[vI zx.1, .int .i64 zx.2],fun _=>hs,fun zx=>R4 zx.1/\zx=sIn (num (varg vs 1)) (num (varg vs 2)) (num (varg vs 3))⟩
abbrev share_In_Q (A S n:Int) (zv:Value) :Prop:= ∃zx:Int×Int,(R4 zx.1/\zx=sIn (num (vI A)) (num (vI S)) (num (vI n)))/\zv= .tuple #[vI zx.1, .int .i64 zx.2]/\True
abbrev share_In_A (A S n:Int) (zF:SF (Int×Int)):Prop:=zF #[vI A,vI S,vI n] [] (fun zx=> .tuple #[vI zx.1, .int .i64 zx.2]) (fun zx=> []) (fun zx=>(R4 zx.1/\zx=sIn (num (vI A)) (num (vI S)) (num (vI n))))
set_option maxRecDepth 100000 in
set_option maxHeartbeats 1000000 in
theorem share_In_vc (A S n:Int):share_In_A A S n (fun za zh zv zu zp=>codeW Try.prog 66 none 2000 none (bodyOf Try.f79) (.reg [.sem [.nw 0], .sem [.nw 1], .sem [.nw 2], .sem [.nw 3],S0] (.reg [.sem (rds 4 2),S0, .eq (f_eq)] (.cond (.reg [.sem (rds 4 2), .sem (wrs 4 3),S0] (.done)) (.reg [.sem (rds 4 0), .sem (rds 4 1), .callr [] share_more_C,S0,S0,S0,S0, .sem [.nw 4], .sem [.nw 5], .sem (wrs 4 4), .sem (wrs 4 5),S0] (.reg [S0,S0] (.cond (.reg [S0,S0, .sem (wrs 4 3),S0] (.done)) (.reg [.sem (rds 4 2), .sem (rds 4 5), .sem (rds 4 4), .callr [] wide_MulDiv_C,S0,S0,S0, .sem [.nw 6], .sem (wrs 4 6),S0] (.reg [S0,S0,S0] (.cond (.reg [S0,S0, .sem (wrs 4 3),S0] (.done)) (.reg [.sem (rds 4 6),S0, .eq (f_eq),S0] (.cond (.reg [.sem (rds 4 6), .sem (wrs 4 3),S0] (.done)) (.reg [.sem (rds 4 0), .sem (rds 4 2), .callr [] huge_Add_C,S0,S0,S0,S0] (.reg [.sem (rds 4 1), .sem (rds 4 6), .callr [] huge_Add_C,S0,S0,S0, .sem [.nw 7], .sem (wrs 4 7),S0] (.caseP (fun s=>(ci (s.fr 10)) !=(0:Int)) (.reg [S0, .gen [] (Sx.one (.bool true)),S0, .no, .no,S0] (.condT (.reg [S0, .sem (wrs 4 3),S0] (.done)))) (.reg [S0, .gen [] (Sx.one (.bool false)),S0,S0,S0,S0] (.cond (.reg [S0, .sem (wrs 4 3),S0] (.done)) (.reg [.sem (rds 4 6), .sem (wrs 4 3),S0] (.done))))))))))))))))))
    (init za zh) (finW Try.prog Try.f79 [.rd 3, .rd 3, .rd 3, .rd 3] [] (X:=Int×Int) zv zu zp))=
    (∀b1:Nat,∀b2:Nat,∀b3:Nat,∀b4:Nat,rdQ 4 b3 ((PureRun Try.prog (xBin .eql 25 (vI n) (vI 0)) (.bool (num (vI n)==num (vI 0))))/\((num (vI n)==num (vI 0))=true->rdQ 4 b3 (rdQ 4 b4 (rdQ 4 b4 (share_In_Q A S n (Value.tuple #[vI n, .int .i64 3])))))/\((num (vI n)==num (vI 0))=false->rdQ 4 b1 (rdQ 4 b2 (share_more_K A S (fun x5=> ∀b6:Nat,∀b7:Nat,rdQ 4 b6 (rdQ 4 b7 (((x5.2.2 !=(0:Int))=true->rdQ 4 b4 (rdQ 4 b4 (share_In_Q A S n (Value.tuple #[.agg #[uu 0,uu 0,uu 0,uu 0], .int .i64 x5.2.2]))))/\((x5.2.2 !=(0:Int))=false->rdQ 4 b3 (rdQ 4 b7 (rdQ 4 b6 (wide_MulDiv_K n x5.2.1 x5.1 (fun x8=> ∀b9:Nat,rdQ 4 b9 (((x8.2 !=(0:Int))=true->rdQ 4 b4 (rdQ 4 b4 (share_In_Q A S n (Value.tuple #[.agg #[uu 0,uu 0,uu 0,uu 0], .int .i64 x8.2]))))/\((x8.2 !=(0:Int))=false->rdQ 4 b9 ((PureRun Try.prog (xBin .eql 25 (vI x8.1) (vI 0)) (.bool (num (vI x8.1)==num (vI 0))))/\((num (vI x8.1)==num (vI 0))=true->rdQ 4 b9 (rdQ 4 b4 (rdQ 4 b4 (share_In_Q A S n (Value.tuple #[vI x8.1, .int .i64 3])))))/\((num (vI x8.1)==num (vI 0))=false->rdQ 4 b1 (rdQ 4 b3 (huge_Add_K A n (fun x10=>rdQ 4 b2 (rdQ 4 b9 (huge_Add_K S x8.1 (fun x11=> ∀b12:Nat,rdQ 4 b12 (((x10.2 !=(0:Int))=true->(∃_:Unit,True/\Value.bool (x10.2 !=(0:Int))= .bool true)/\ ∀_:Unit,(True)->true= !false/\true= !false/\(true=true)/\rdQ 4 b4 (rdQ 4 b4 (share_In_Q A S n (Value.tuple #[.agg #[uu 0,uu 0,uu 0,uu 0], .int .i64 2]))))/\((x10.2 !=(0:Int))=false->(∃_:Unit,True/\Value.bool (x10.2 !=(0:Int))= .bool false)/\ ∀_:Unit,(True)->false=false/\false=false/\((x11.2 !=(0:Int))=true->rdQ 4 b4 (rdQ 4 b4 (share_In_Q A S n (Value.tuple #[.agg #[uu 0,uu 0,uu 0,uu 0], .int .i64 2]))))/\((x11.2 !=(0:Int))=false->rdQ 4 b9 (rdQ 4 b4 (rdQ 4 b4 (share_In_Q A S n (Value.tuple #[vI x8.1, .int .i64 0])))))))))))))))))))))))))))))):=by kernel_rfl
end Go.Proofs
